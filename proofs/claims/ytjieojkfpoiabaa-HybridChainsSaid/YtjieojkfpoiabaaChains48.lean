/-
  Texts of this claim, in their build order: Y4.
-/
import Derived.Test.YtjieojkfpoiabaaChains47
import Derived.Test.YtjieojkfpoiabaaChains25

/-
  The reference's force of a spring.
-/
namespace Go.Proofs.Ytjieojkfpoiabaa
open Go.RowKit

def sprQ (ks : List Int) (u : List (Int × Int)) (i : Nat) : Int × Int := if 0 < i then sprR (gi ks i) (fg u i) (fg u (i - 1)) else spr0 (gi ks i) (fg u i)
theorem fr_dg {n m : Int} (hn : n.natAbs < 1000000000 ^ 3) (hm : m.natAbs < 1000000000 ^ 3) : (dg (fr n m).1).length ≤ 3 ∧ (dg (fr n m).2).length ≤ 3 :=
  ⟨dg_small 3 (by have := @fr_bd1 n m _ (Nat.le_refl _); omega), dg_small 3 (by have := @fr_bd2 n m _ (Nat.le_refl _); omega)⟩
theorem fr_sm {p : Int × Int} (h : SmF p) : (fr p.1 p.2).1.natAbs ≤ 1000000000 ∧ (fr p.1 p.2).2.natAbs ≤ 1000000000 ∧ 0 < (fr p.1 p.2).2 := by
  obtain ⟨h0, h1, h2, h3⟩ := h
  exact ⟨fr_bd1 (by omega), fr_bd2 (by omega), fr_pos (by omega)⟩
theorem sub_sm {p q : Int × Int} (hp1 : p.1.natAbs ≤ 1000000000) (hp2 : p.2.natAbs ≤ 1000000000) (hq1 : q.1.natAbs ≤ 1000000000) (hq2 : q.2.natAbs ≤ 1000000000) (hp : 0 < p.2) (hq : 0 < q.2) :
    (dg (rAdd p (rNeg q)).1).length ≤ 3 ∧ (dg (rAdd p (rNeg q)).2).length ≤ 3 ∧ 0 < (rAdd p (rNeg q)).2 := by
  obtain ⟨a0, a1⟩ := mul_bd (a := p.1) (b := q.2) (A := 1000000000) (B := 1000000000) (by omega) (by omega) (by omega) (by omega)
  obtain ⟨b0, b1⟩ := mul_bd (a := -q.1) (b := p.2) (A := 1000000000) (B := 1000000000) (by omega) (by omega) (by omega) (by omega)
  obtain ⟨c0, c1⟩ := mul_bd (a := p.2) (b := q.2) (A := 1000000000) (B := 1000000000) (by omega) (by omega) (by omega) (by omega)
  have h := fr_dg (n := p.1 * q.2 + -q.1 * p.2) (m := p.2 * q.2) (by omega) (by omega)
  exact ⟨h.1, h.2, fr_pos (Int.mul_pos hp hq)⟩

set_option maxHeartbeats 3200000 in
set_option maxRecDepth 100000 in
theorem spring_any (ks : List Int) (u : List (Int × Int)) (i : Nat) (a1 a2 au : Option Addr) (c1 n2 c2 cu : Nat) (w : World) (hfew : ks.length ≤ 1000) (hi : i < ks.length) (hu : u.length = ks.length) (hk0 : 0 ≤ gi ks i) (hk1 : gi ks i ≤ 1000) (hsm : ∀ j, j < u.length → SmF (fg u j))
    (hr1 : Reads w a1 ks.length (ints ks)) (hru : Reads w au (ks.length * 2) (fracs u)) :
    Calls Try.prog 113 #[.agg (chV a1 ks.length c1 a2 n2 c2), .slice au ks.length cu, .int .i64 i] w fun e w1 => RPost [] (sprQ ks u i) w e w1 := by
  obtain ⟨g1, g2, g3⟩ := fr_sm (hsm i (by omega))
  obtain ⟨so0, so1, so2, so3⟩ := hsm i (by omega)
  have HFO := Lib.hid (fun W => RatioFrom_any (fg u i).1 (fg u i).2 W (by omega) (by omega) (by omega) (by omega))
  have HIN := Lib.hid (fun W => RatioInt_any (gi ks i) W (by omega) (by omega))
  have HML := Lib.hid (fun (q : Int × Int) W b1 b2 b3 b4 vK vX (h5 : RR W b1 b2 vK (gi ks i, 1)) (h6 : RR W b3 b4 vX q) (l1 : (dg q.1).length ≤ 3) (l2 : (dg q.2).length ≤ 3) (l3 : 0 < q.2) => RatioMul_any (gi ks i, 1) q b1 b2 b3 b4 vK vX W h5 h6 (Nat.le_trans (dg_small 3 (by dsimp only; omega)) (by decide)) (Nat.le_trans (dg_small 3 (show (1 : Int).natAbs < 1000000000 ^ 3 by decide)) (by decide)) (by omega) (by omega) (show (0 : Int) < 1 by decide) l3)
  have HSUB := Lib.hid (fun (hi0 : 0 < i) W b1 b2 b3 b4 vO vB (h5 : RR W b1 b2 vO (fr (fg u i).1 (fg u i).2)) (h6 : RR W b3 b4 vB (fr (fg u (i - 1)).1 (fg u (i - 1)).2)) => by
    obtain ⟨e1, e2, e3⟩ := fr_sm (hsm (i - 1) (by omega))
    exact RatioSub_any _ _ b1 b2 b3 b4 vO vB W h5 h6 (Nat.le_trans (dg_small 3 (by omega)) (by decide)) (Nat.le_trans (dg_small 3 (by omega)) (by decide)) (Nat.le_trans (dg_small 3 (by omega)) (by decide)) (Nat.le_trans (dg_small 3 (by omega)) (by decide)) g3 e3)
  have HSZ := Lib.hid (fun (hi0 : 0 < i) => by
    obtain ⟨e1, e2, e3⟩ := fr_sm (hsm (i - 1) (by omega))
    exact sub_sm g1 g2 e1 e2 g3 e3)
  have HSZ0 := Lib.hid (show (dg (fr (fg u i).1 (fg u i).2).1).length ≤ 3 ∧ (dg (fr (fg u i).1 (fg u i).2).2).length ≤ 3 ∧ 0 < (fr (fg u i).1 (fg u i).2).2 from ⟨dg_small 3 (by omega), dg_small 3 (by omega), g3⟩)
  have HFB := Lib.hid (fun (hi0 : 0 < i) (W : World) => by
    obtain ⟨e0, e1, e2, e3⟩ := hsm (i - 1) (by omega)
    exact RatioFrom_any (fg u (i - 1)).1 (fg u (i - 1)).2 W (by omega) (by omega) (by omega) (by omega))
  obtain ⟨o1, q1, rfl, hb1, hx1⟩ := hr1.at (k := i) hi
  obtain ⟨o3, q3, rfl, hb3, hx3⟩ := hru.at (k := i * 2) (by omega)
  have KK := Lib.hid (hx1 i hi)
  have KL := Lib.hid hx3
  obtain ⟨x, hxx⟩ : ∃ x, gi ks i = x := ⟨_, rfl⟩
  have KX : Hid (w.cell? ⟨o1, q1 + i, none⟩ = some (.int .i64 x)) := Lib.hid (by rw [KK.out, ← hxx]; rfl)
  rw [hxx] at HIN HML
  obtain ⟨on, od, hoo⟩ : ∃ on od, fg u i = (on, od) := ⟨_, _, rfl⟩
  have KO1 : Hid (w.cell? ⟨o3, q3 + i * 2, none⟩ = some (.int .i64 on)) := Lib.hid (by rw [KL.out _ (by omega), fracs0, hoo])
  have KO2 : Hid (w.cell? ⟨o3, q3 + i * 2 + 1, none⟩ = some (.int .i64 od)) := Lib.hid (by rw [Nat.add_assoc, KL.out _ (by omega), fracs1, hoo])
  rw [hoo] at HFO HSUB HSZ HSZ0
  dsimp only at HFO HSUB HSZ HSZ0
  unfold sprQ
  rw [hxx, hoo]
  have HKQ : Hid (0 ≤ x ∧ x ≤ 1000) := Lib.hid (by rw [← hxx]; exact ⟨hk0, hk1⟩)
  clear hx1 hx3 KK hxx hoo hr1 hru hk0 hk1 hsm g1 g2 g3 so0 so1 so2 so3
  obtain ⟨qo, hqo⟩ : ∃ q, fr on od = q := ⟨_, rfl⟩
  rw [hqo] at HFO HSUB HSZ HSZ0
  by_cases hi0 : 0 < i
  · have hb1' : o1 < w.heap.size := hb1
    obtain ⟨bn, bd, hbb⟩ : ∃ bn bd, fg u (i - 1) = (bn, bd) := ⟨_, _, rfl⟩
    have KP1 : Hid (w.cell? ⟨o3, q3 + (i - 1) * 2, none⟩ = some (.int .i64 bn)) := Lib.hid (by rw [KL.out _ (by omega), fracs0, hbb])
    have KP2 : Hid (w.cell? ⟨o3, q3 + (i - 1) * 2 + 1, none⟩ = some (.int .i64 bd)) := Lib.hid (by rw [Nat.add_assoc, KL.out _ (by omega), fracs1, hbb])
    have HFB1 := Lib.hid (HFB.out hi0)
    have HSB1 := Lib.hid (HSUB.out hi0)
    have HSZ1 := Lib.hid (HSZ.out hi0)
    rw [if_pos hi0]
    rw [hbb] at HFB1 HSB1 HSZ1 ⊢
    dsimp only at HFB1 HSB1 HSZ1
    have HQ : Hid (rMul (x, 1) (rAdd qo (rNeg (fr bn bd))) = sprR x (on, od) (bn, bd)) := Lib.hid (by rw [← hqo]; rfl)
    obtain ⟨j, rfl⟩ : ∃ j, i = j + 1 := ⟨i - 1, by omega⟩
    rw [show j + 1 - 1 = j by omega] at KP1 KP2
    have hq0 : decide ((0 : Int) < ((j + 1 : Nat) : Int)) = true := decide_eq_true (by omega)
    clear HFB HSUB HSZ KL hbb hqo hi0 hb1
    go_enter Try.func113, Try.ntmps113
    go_upto_region 1 with (fail)
    obtain ⟨w3, hw3⟩ : ∃ w3, (w.alloc (.cells (chV (some ⟨o1, q1, none⟩) ks.length c1 a2 n2 c2) 73)).alloc (.cells #[.int .i64 0, .slice none 0 0, .int .i64 0, .slice none 0 0] 111) = w3 := ⟨_, rfl⟩
    rw [hw3]
    have K0 : Hid (Blk w3 w.heap.size (chV (some ⟨o1, q1, none⟩) ks.length c1 a2 n2 c2)) := by subst hw3; exact Lib.hid ((Blk.new _ _ _).alloc _)
    have K2 : Hid (Blk w3 (w.heap.size + 1) #[.int .i64 0, .slice none 0 0, .int .i64 0, .slice none 0 0]) := by subst hw3; exact Lib.hid (Blk.newAt _ _ _ (by simp))
    have HB : Hid (Below w.heap.size w w3) := by subst hw3; exact Lib.hid (bAlloc (bAlloc (bSelf w) _) _)
    clear hw3
    have ko1 := (HB.out.cell (p := ⟨o3, q3 + (j + 1) * 2, none⟩) hb3).trans KO1.out
    have ko2 := (HB.out.cell (p := ⟨o3, q3 + (j + 1) * 2 + 1, none⟩) hb3).trans KO2.out
    go_wp2_with fail
    refine (HFO.out _).mono ?_
    rintro e w4 ⟨aA, aB, vA, rfl, hvA, hb, hlA⟩
    have hs3 : w.heap.size + 1 < w3.heap.size := K2.out.1
    replace K0 := Lib.hid (K0.out.to hb)
    replace K2 := Lib.hid (K2.out.to hb)
    replace HB := Lib.hid (bThen HB.out hb)
    have HVA := Lib.hid hvA
    have HLA := Lib.hid (fun (P : Nat → Prop) (h : ∀ b, w.heap.size + 2 ≤ b → P b) => hlA P (fun b hb => h b (by omega)) (fun i hi => by cases hi))
    have HWA : Hid (Loc (fun b => b < w4.heap.size) aA qo.1 ∧ Loc (fun b => b < w4.heap.size) aB qo.2) := Lib.hid (by
      obtain ⟨_, _, _, _, _, _, _, h1, h2⟩ := hvA
      exact ⟨h1.loc, h2.loc⟩)
    clear hb hlA ko1 ko2
    obtain ⟨sA, nA, cA, sB, nB, cB, rfl, -, -⟩ := hvA
    have hs4 : w.heap.size + 1 < w4.heap.size := K2.out.1
    go_upto_region 2 with (fail)
    obtain ⟨w5, hw5⟩ : ∃ w5, w4.alloc (.cells #[.int .i64 sA, .slice aA nA cA, .int .i64 sB, .slice aB nB cB] 111) = w5 := ⟨_, rfl⟩
    rw [hw5]
    have hb5 : Below w4.heap.size w4 w5 := by subst hw5; exact bAlloc (bSelf _) _
    have K7 : Hid (Blk w5 w4.heap.size #[.int .i64 sA, .slice aA nA cA, .int .i64 sB, .slice aB nB cB]) := by subst hw5; exact Lib.hid (Blk.new _ _ _)
    replace K0 := Lib.hid (K0.out.to hb5)
    replace K2 := Lib.hid (K2.out.to hb5)
    replace HB := Lib.hid (bThen HB.out hb5)
    replace HVA := Lib.hid (HVA.out.to hb5)
    clear hb5 hw5
    obtain ⟨B7, hB7⟩ : ∃ B, w4.heap.size = B := ⟨_, rfl⟩
    rw [hB7] at K7 HWA hs4 ⊢
    clear hB7
    go_upto_region 3 with (fail)
    refine wp_region_treeT 8 (by kernel_rfl) (by kernel_rfl) (fun wd hwd => ?_)
    have T := Lib.hid hwd
    clear hwd
    have hs5 : B7 < w5.heap.size := K7.out.1
    refine WE_yes 0 rfl (by kernel_rfl) (fun _ _ _ _ _ h => h) (by rfl) ?_; apply Exists.intro; refine ⟨fun w1 hb1 => ?_, ?_⟩; (focus (((obtain ⟨-, k7, -⟩ := K7.out.to (T.out.trans hb1)); have hb1 := Lib.hid hb1; go_simp); (try (go_bits; try go_simp)); (try (rw [if_pos (by omega)]; try go_simp)); (first | done | (fail) | (with_reducible rfl) | exact rfl)))
    simp only [Act.put, List.setIfInBounds_toArray, List.set_cons_zero, List.set_cons_succ]
    refine WE_yes 1 rfl (by kernel_rfl) (fun _ _ _ _ _ h => h) (by rfl) ?_; apply Exists.intro; refine ⟨fun w1 hb1 => ?_, ?_⟩; (focus ((skip; have hb1 := Lib.hid hb1; go_simp); (try (go_bits; try go_simp)); (try (rw [if_pos (by omega)]; try go_simp)); (first | done | (fail) | (with_reducible rfl) | exact rfl)))
    simp only [Act.put, List.setIfInBounds_toArray, List.set_cons_zero, List.set_cons_succ]
    refine WE_yes 2 rfl (by kernel_rfl) (fun _ _ _ _ _ h => h) (by rfl) ?_; apply Exists.intro; refine ⟨fun w1 hb1 => ?_, ?_⟩; (focus ((skip; have hb1 := Lib.hid hb1; go_simp); (try (go_bits; try go_simp)); (try (rw [if_pos (by omega)]; try go_simp)); (first | done | (fail) | (with_reducible rfl) | exact rfl)))
    simp only [Act.put, List.setIfInBounds_toArray, List.set_cons_zero, List.set_cons_succ]
    refine WE_yes 3 rfl (by kernel_rfl) (fun _ _ _ _ _ h => h) (by rfl) ?_; apply Exists.intro; refine ⟨fun w1 hb1 => ?_, ?_⟩; (focus ((skip; have hb1 := Lib.hid hb1; go_simp); (try (go_bits; try go_simp)); (try (rw [if_pos (by omega)]; try go_simp)); (first | done | (fail) | (with_reducible rfl) | exact rfl)))
    simp only [Act.put, List.setIfInBounds_toArray, List.set_cons_zero, List.set_cons_succ]
    refine WE_yes 4 rfl (by kernel_rfl) (fun _ _ _ _ _ h => h) (by rfl) ?_; apply Exists.intro; refine ⟨fun w1 hb1 => ?_, ?_⟩; (focus ((skip; have hb1 := Lib.hid hb1; go_simp); (try (go_bits; try go_simp)); (try (rw [if_pos (by omega)]; try go_simp)); (first | done | (fail) | (with_reducible rfl) | exact rfl)))
    simp only [Act.put, List.setIfInBounds_toArray, List.set_cons_zero, List.set_cons_succ]
    refine WE_yes 5 rfl (by kernel_rfl) (fun _ _ _ _ _ h => h) (by rfl) ?_; apply Exists.intro; refine ⟨fun w1 hb1 => ?_, ?_⟩; (focus (((have kp1 := ((HB.out.trans ((T.out.trans hb1).mono (by omega))).cell (p := ⟨o3, q3 + j * 2, none⟩) hb3).trans KP1.out; have kp2 := ((HB.out.trans ((T.out.trans hb1).mono (by omega))).cell (p := ⟨o3, q3 + j * 2 + 1, none⟩) hb3).trans KP2.out); have hb1 := Lib.hid hb1; go_simp); (try (go_bits; try go_simp)); (try (rw [if_pos (by omega)]; try go_simp)); (first | done | (fail) | (with_reducible rfl) | exact rfl)))
    simp only [Act.put, List.setIfInBounds_toArray, List.set_cons_zero, List.set_cons_succ]
    refine WE_one 6 rfl (by decide) (by kernel_rfl) ?_
    unfold stepE
    go_wp2_with fail
    refine (HFB1.out _).mono ?_
    rintro e w6 ⟨aP, bP, vP, rfl, hvP, hb, -⟩
    have HVP := Lib.hid hvP
    have hbd := Lib.hid (hb.mono T.out.size)
    replace T := Lib.hid (T.out.trans hbd.out)
    clear hb hvP
    go_wp2_with fail
    refine ⟨hbd.out, ?_⟩
    clear hbd
    refine WE_one 7 rfl (by decide) (by kernel_rfl) ?_
    unfold stepE
    go_wp2_with fail
    refine (HSB1.out _ _ _ _ _ _ _ (HVA.out.to T.out) HVP.out).mono ?_
    rintro e w8 ⟨aX, bX, vX, rfl, hvX, hb, hlX⟩
    have HVX := Lib.hid hvX
    have HLX := Lib.hid (fun (P : Nat → Prop) (h : ∀ b, w5.heap.size ≤ b → P b) => hlX P (fun b hb => h b (by have := T.out.size; omega)) (fun i hi => by cases hi))
    have hbd := Lib.hid (hb.mono T.out.size)
    replace T := Lib.hid (T.out.trans hbd.out)
    clear hb hlX
    obtain ⟨sX, nX, cX, sY, nY, cY, rfl, -, -⟩ := hvX
    go_wp2_with fail
    refine ⟨hbd.out, ?_⟩
    clear hbd
    replace K0 := Lib.hid (K0.out.to T.out)
    replace K2 := Lib.hid (K2.out.to T.out)
    replace K7 := Lib.hid (K7.out.to T.out)
    replace HB := Lib.hid (bThen HB.out T.out)
    clear T HVA HVP
    refine WE_tail rfl (by kernel_rfl) ?_
    simp only [List.drop_succ_cons, List.drop_zero]
    obtain ⟨hk7, k7, f7⟩ := K7.out
    go_upto_region 4 with (fail)
    clear k7 f7
    have K7' : Hid (Blk ((((w8.setCell ⟨B7, 0, none⟩ (.int .i64 sX)).setCell ⟨B7, 1, none⟩ (.slice aX nX cX)).setCell ⟨B7, 2, none⟩ (.int .i64 sY)).setCell ⟨B7, 3, none⟩ (.slice bX nY cY)) B7 #[.int .i64 sX, .slice aX nX cX, .int .i64 sY, .slice bX nY cY]) := Lib.hid ((((K7.out.set 0 (.int .i64 sX)).set 1 (.slice aX nX cX)).set 2 (.int .i64 sY)).set 3 (.slice bX nY cY))
    have eX1 : Loc (fun c => c ≠ B7) aX _ := (HLX.out _ (fun b hb => by omega)).1
    have eX2 : Loc (fun c => c ≠ B7) bX _ := (HLX.out _ (fun b hb => by omega)).2
    have HVX' := Lib.hid ((((HVX.out.set1 eX1 eX2 (i := 0) (.int .i64 sX)).set1 eX1 eX2 (i := 1) (.slice aX nX cX)).set1 eX1 eX2 (i := 2) (.int .i64 sY)).set1 eX1 eX2 (i := 3) (.slice bX nY cY))
    have K0' := Lib.hid ((((K0.out.other (p := ⟨B7, 0, none⟩) (by dsimp only; omega) (.int .i64 sX)).other (p := ⟨B7, 1, none⟩) (by dsimp only; omega) (.slice aX nX cX)).other (p := ⟨B7, 2, none⟩) (by dsimp only; omega) (.int .i64 sY)).other (p := ⟨B7, 3, none⟩) (by dsimp only; omega) (.slice bX nY cY))
    have K2' := Lib.hid ((((K2.out.other (p := ⟨B7, 0, none⟩) (by dsimp only; omega) (.int .i64 sX)).other (p := ⟨B7, 1, none⟩) (by dsimp only; omega) (.slice aX nX cX)).other (p := ⟨B7, 2, none⟩) (by dsimp only; omega) (.int .i64 sY)).other (p := ⟨B7, 3, none⟩) (by dsimp only; omega) (.slice bX nY cY))
    have HB' := Lib.hid ((((HB.out.setCell (p := ⟨B7, 0, none⟩) (by dsimp only; omega) (.int .i64 sX)).setCell (p := ⟨B7, 1, none⟩) (by dsimp only; omega) (.slice aX nX cX)).setCell (p := ⟨B7, 2, none⟩) (by dsimp only; omega) (.int .i64 sY)).setCell (p := ⟨B7, 3, none⟩) (by dsimp only; omega) (.slice bX nY cY))
    obtain ⟨w9, hw9⟩ : ∃ w9, (((w8.setCell ⟨B7, 0, none⟩ (.int .i64 sX)).setCell ⟨B7, 1, none⟩ (.slice aX nX cX)).setCell ⟨B7, 2, none⟩ (.int .i64 sY)).setCell ⟨B7, 3, none⟩ (.slice bX nY cY) = w9 := ⟨_, rfl⟩
    rw [hw9] at K7' HVX' K0' K2' HB' ⊢
    clear hw9 K7 HVX K0 K2 HB eX1 eX2 hk7 HLX
    have K7 := K7'; have HVX := HVX'; have K0 := K0'; have K2 := K2'; have HB := HB'
    clear K7' HVX' K0' K2' HB'
    go_upto_region 4 with (fail)
    refine wp_region_treeT 8 (by kernel_rfl) (by kernel_rfl) (fun wd hwd => ?_)
    have T := Lib.hid hwd
    clear hwd
    have hsW : B7 < w9.heap.size := K7.out.1
    refine WE_yes 0 rfl (by kernel_rfl) (fun _ _ _ _ _ h => h) (by rfl) ?_; apply Exists.intro; refine ⟨fun w1 hb1 => ?_, ?_⟩; (focus ((skip; have hb1 := Lib.hid hb1; go_simp); (try (go_bits; try go_simp)); (try (rw [if_pos (by omega)]; try go_simp)); (first | done | (fail) | (with_reducible rfl) | exact rfl)))
    simp only [Act.put, List.setIfInBounds_toArray, List.set_cons_zero, List.set_cons_succ]
    refine WE_yes 1 rfl (by kernel_rfl) (fun _ _ _ _ _ h => h) (by rfl) ?_; apply Exists.intro; refine ⟨fun w1 hb1 => ?_, ?_⟩; (focus (((obtain ⟨-, k0, -⟩ := K0.out.to (T.out.trans hb1)); have hb1 := Lib.hid hb1; go_simp); (try (go_bits; try go_simp)); (try (rw [if_pos (by omega)]; try go_simp)); (first | done | (fail) | (with_reducible rfl) | exact rfl)))
    simp only [Act.put, List.setIfInBounds_toArray, List.set_cons_zero, List.set_cons_succ]
    refine WE_yes 2 rfl (by kernel_rfl) (fun _ _ _ _ _ h => h) (by rfl) ?_; apply Exists.intro; refine ⟨fun w1 hb1 => ?_, ?_⟩; (focus ((skip; have hb1 := Lib.hid hb1; go_simp); (try (go_bits; try go_simp)); (try (rw [if_pos (by omega)]; try go_simp)); (first | done | (fail) | (with_reducible rfl) | exact rfl)))
    simp only [Act.put, List.setIfInBounds_toArray, List.set_cons_zero, List.set_cons_succ]
    refine WE_yes 3 rfl (by kernel_rfl) (fun _ _ _ _ _ h => h) (by rfl) ?_; apply Exists.intro; refine ⟨fun w1 hb1 => ?_, ?_⟩; (focus ((skip; have hb1 := Lib.hid hb1; go_simp); (try (go_bits; try go_simp)); (try (rw [if_pos (by omega)]; try go_simp)); (first | done | (fail) | (with_reducible rfl) | exact rfl)))
    simp only [Act.put, List.setIfInBounds_toArray, List.set_cons_zero, List.set_cons_succ]
    refine WE_yes 4 rfl (by kernel_rfl) (fun _ _ _ _ _ h => h) (by rfl) ?_; apply Exists.intro; refine ⟨fun w1 hb1 => ?_, ?_⟩; (focus (((have kx := ((HB.out.trans ((T.out.trans hb1).mono (by omega))).cell (p := ⟨o1, q1 + (j + 1), none⟩) hb1').trans KX.out); have hb1 := Lib.hid hb1; go_simp); (try (go_bits; try go_simp)); (try (rw [if_pos (by omega)]; try go_simp)); (first | done | (fail) | (with_reducible rfl) | exact rfl)))
    simp only [Act.put, List.setIfInBounds_toArray, List.set_cons_zero, List.set_cons_succ]
    refine WE_yes 6 rfl (by kernel_rfl) (fun _ _ _ _ _ h => h) (by rfl) ?_; apply Exists.intro; refine ⟨fun w1 hb1 => ?_, ?_⟩; (focus (((obtain ⟨-, k7, -⟩ := K7.out.to (T.out.trans hb1)); have hb1 := Lib.hid hb1; go_simp); (try (go_bits; try go_simp)); (try (rw [if_pos (by omega)]; try go_simp)); (first | done | (fail) | (with_reducible rfl) | exact rfl)))
    simp only [Act.put, List.setIfInBounds_toArray, List.set_cons_zero, List.set_cons_succ]
    refine WE_one 5 rfl (by decide) (by kernel_rfl) ?_
    unfold stepE
    go_wp2_with fail
    refine (HIN.out _).mono ?_
    rintro e wK ⟨aK, bK, vK, rfl, hvK, hb, -⟩
    have HVK := Lib.hid hvK
    have hbd := Lib.hid (hb.mono T.out.size)
    replace T := Lib.hid (T.out.trans hbd.out)
    clear hb hvK
    go_wp2_with fail
    refine ⟨hbd.out, ?_⟩
    clear hbd
    refine WE_one 7 rfl (by decide) (by kernel_rfl) ?_
    unfold stepE
    go_wp2_with fail
    refine (HML.out _ _ _ _ _ _ _ _ HVK.out (HVX.out.to T.out) HSZ1.out.1 HSZ1.out.2.1 HSZ1.out.2.2).mono ?_
    rintro e wR ⟨aR, bR, vR, rfl, hvR, hb, hlR⟩
    have HVR := Lib.hid hvR
    have HLR := Lib.hid (fun (P : Nat → Prop) (h : ∀ b, w.heap.size + 2 ≤ b → P b) => hlR P (fun b hb => h b (by have := T.out.size; omega)) (fun i hi => by cases hi))
    have hbd := Lib.hid (hb.mono T.out.size)
    replace T := Lib.hid (T.out.trans hbd.out)
    clear hb hlR
    obtain ⟨sR, nR, cR, sS, nS, cS, rfl, -, -⟩ := hvR
    go_wp2_with fail
    refine ⟨hbd.out, ?_⟩
    clear hbd
    replace K2 := Lib.hid (K2.out.to T.out)
    replace HB := Lib.hid (bThen HB.out T.out)
    clear T
    refine WE_tail rfl (by kernel_rfl) ?_
    simp only [List.drop_succ_cons, List.drop_zero]
    obtain ⟨hk2, k2, f2⟩ := K2.out
    go_wp2_with fail
    clear k2 f2
    have FF := ((((K2.out.set 0 (.int .i64 sR)).set 1 (.slice aR nR cR)).set 2 (.int .i64 sS)).set 3 (.slice bR nS cS)).2.1
    have F0 := FF 0; have F1 := FF 1; have F2 := FF 2; have F3 := FF 3
    clear FF
    refine bodyPost_ret (v := .agg #[.int .i64 sR, .slice aR nR cR, .int .i64 sS, .slice bR nS cS]) ?_ rfl ?_
    · simp [results, Try.results113, go_sem, F0, F1, F2, F3]
    · have e1 : Loc (fun c => c ≠ w.heap.size + 1) aR _ := (HLR.out _ (fun b hb => by omega)).1
      have e2 : Loc (fun c => c ≠ w.heap.size + 1) bR _ := (HLR.out _ (fun b hb => by omega)).2
      refine ⟨aR, bR, _, rfl, ?_, (((HB.out.setCell (p := ⟨w.heap.size + 1, 0, none⟩) (by dsimp only; omega) _).setCell (p := ⟨w.heap.size + 1, 1, none⟩) (by dsimp only; omega) _).setCell (p := ⟨w.heap.size + 1, 2, none⟩) (by dsimp only; omega) _).setCell (p := ⟨w.heap.size + 1, 3, none⟩) (by dsimp only; omega) _, ?_⟩
      · rw [← HQ.out]
        exact (((HVR.out.set1 e1 e2 _).set1 e1 e2 _).set1 e1 e2 _).set1 e1 e2 _
      · intro P hf _
        rw [← HQ.out]
        exact HLR.out P (fun b hb => hf b (by omega))
  · have hb1' : o1 < w.heap.size := hb1
    rw [if_neg hi0]
    have HQ : Hid (rMul (x, 1) qo = spr0 x (on, od)) := Lib.hid (by rw [← hqo]; rfl)
    have hq0 : decide ((0 : Int) < (i : Int)) = false := decide_eq_false (by omega)
    have hqN : decide (0 < i) = false := decide_eq_false hi0
    clear HFB HSUB HSZ KL hqo hi0 hb1
    go_enter Try.func113, Try.ntmps113
    go_upto_region 1 with (fail)
    obtain ⟨w3, hw3⟩ : ∃ w3, (w.alloc (.cells (chV (some ⟨o1, q1, none⟩) ks.length c1 a2 n2 c2) 73)).alloc (.cells #[.int .i64 0, .slice none 0 0, .int .i64 0, .slice none 0 0] 111) = w3 := ⟨_, rfl⟩
    rw [hw3]
    have K0 : Hid (Blk w3 w.heap.size (chV (some ⟨o1, q1, none⟩) ks.length c1 a2 n2 c2)) := by subst hw3; exact Lib.hid ((Blk.new _ _ _).alloc _)
    have K2 : Hid (Blk w3 (w.heap.size + 1) #[.int .i64 0, .slice none 0 0, .int .i64 0, .slice none 0 0]) := by subst hw3; exact Lib.hid (Blk.newAt _ _ _ (by simp))
    have HB : Hid (Below w.heap.size w w3) := by subst hw3; exact Lib.hid (bAlloc (bAlloc (bSelf w) _) _)
    clear hw3
    have ko1 := (HB.out.cell (p := ⟨o3, q3 + i * 2, none⟩) hb3).trans KO1.out
    have ko2 := (HB.out.cell (p := ⟨o3, q3 + i * 2 + 1, none⟩) hb3).trans KO2.out
    go_wp2_with fail
    refine (HFO.out _).mono ?_
    rintro e w4 ⟨aA, aB, vA, rfl, hvA, hb, hlA⟩
    have hs3 : w.heap.size + 1 < w3.heap.size := K2.out.1
    replace K0 := Lib.hid (K0.out.to hb)
    replace K2 := Lib.hid (K2.out.to hb)
    replace HB := Lib.hid (bThen HB.out hb)
    have HVA := Lib.hid hvA
    have HLA := Lib.hid (fun (P : Nat → Prop) (h : ∀ b, w.heap.size + 2 ≤ b → P b) => hlA P (fun b hb => h b (by omega)) (fun i hi => by cases hi))
    have HWA : Hid (Loc (fun b => b < w4.heap.size) aA qo.1 ∧ Loc (fun b => b < w4.heap.size) aB qo.2) := Lib.hid (by
      obtain ⟨_, _, _, _, _, _, _, h1, h2⟩ := hvA
      exact ⟨h1.loc, h2.loc⟩)
    clear hb hlA ko1 ko2
    obtain ⟨sA, nA, cA, sB, nB, cB, rfl, -, -⟩ := hvA
    have hs4 : w.heap.size + 1 < w4.heap.size := K2.out.1
    go_upto_region 2 with (fail)
    obtain ⟨w5, hw5⟩ : ∃ w5, w4.alloc (.cells #[.int .i64 sA, .slice aA nA cA, .int .i64 sB, .slice aB nB cB] 111) = w5 := ⟨_, rfl⟩
    rw [hw5]
    have hb5 : Below w4.heap.size w4 w5 := by subst hw5; exact bAlloc (bSelf _) _
    have K7 : Hid (Blk w5 w4.heap.size #[.int .i64 sA, .slice aA nA cA, .int .i64 sB, .slice aB nB cB]) := by subst hw5; exact Lib.hid (Blk.new _ _ _)
    replace K0 := Lib.hid (K0.out.to hb5)
    replace K2 := Lib.hid (K2.out.to hb5)
    replace HB := Lib.hid (bThen HB.out hb5)
    replace HVA := Lib.hid (HVA.out.to hb5)
    clear hb5 hw5
    obtain ⟨B7, hB7⟩ : ∃ B, w4.heap.size = B := ⟨_, rfl⟩
    rw [hB7] at K7 HWA hs4 ⊢
    clear hB7
    go_upto_region 4 with (fail)
    refine wp_region_treeT 8 (by kernel_rfl) (by kernel_rfl) (fun wd hwd => ?_)
    have T := Lib.hid hwd
    clear hwd
    have hsW : B7 < w5.heap.size := K7.out.1
    refine WE_yes 0 rfl (by kernel_rfl) (fun _ _ _ _ _ h => h) (by rfl) ?_; apply Exists.intro; refine ⟨fun w1 hb1 => ?_, ?_⟩; (focus ((skip; have hb1 := Lib.hid hb1; go_simp); (try (go_bits; try go_simp)); (try (rw [if_pos (by omega)]; try go_simp)); (first | done | (fail) | (with_reducible rfl) | exact rfl)))
    simp only [Act.put, List.setIfInBounds_toArray, List.set_cons_zero, List.set_cons_succ]
    refine WE_yes 1 rfl (by kernel_rfl) (fun _ _ _ _ _ h => h) (by rfl) ?_; apply Exists.intro; refine ⟨fun w1 hb1 => ?_, ?_⟩; (focus (((obtain ⟨-, k0, -⟩ := K0.out.to (T.out.trans hb1)); have hb1 := Lib.hid hb1; go_simp); (try (go_bits; try go_simp)); (try (rw [if_pos (by omega)]; try go_simp)); (first | done | (fail) | (with_reducible rfl) | exact rfl)))
    simp only [Act.put, List.setIfInBounds_toArray, List.set_cons_zero, List.set_cons_succ]
    refine WE_yes 2 rfl (by kernel_rfl) (fun _ _ _ _ _ h => h) (by rfl) ?_; apply Exists.intro; refine ⟨fun w1 hb1 => ?_, ?_⟩; (focus ((skip; have hb1 := Lib.hid hb1; go_simp); (try (go_bits; try go_simp)); (try (rw [if_pos (by omega)]; try go_simp)); (first | done | (fail) | (with_reducible rfl) | exact rfl)))
    simp only [Act.put, List.setIfInBounds_toArray, List.set_cons_zero, List.set_cons_succ]
    refine WE_yes 3 rfl (by kernel_rfl) (fun _ _ _ _ _ h => h) (by rfl) ?_; apply Exists.intro; refine ⟨fun w1 hb1 => ?_, ?_⟩; (focus ((skip; have hb1 := Lib.hid hb1; go_simp); (try (go_bits; try go_simp)); (try (rw [if_pos (by omega)]; try go_simp)); (first | done | (fail) | (with_reducible rfl) | exact rfl)))
    simp only [Act.put, List.setIfInBounds_toArray, List.set_cons_zero, List.set_cons_succ]
    refine WE_yes 4 rfl (by kernel_rfl) (fun _ _ _ _ _ h => h) (by rfl) ?_; apply Exists.intro; refine ⟨fun w1 hb1 => ?_, ?_⟩; (focus (((have kx := ((HB.out.trans ((T.out.trans hb1).mono (by omega))).cell (p := ⟨o1, q1 + i, none⟩) hb1').trans KX.out); have hb1 := Lib.hid hb1; go_simp); (try (go_bits; try go_simp)); (try (rw [if_pos (by omega)]; try go_simp)); (first | done | (fail) | (with_reducible rfl) | exact rfl)))
    simp only [Act.put, List.setIfInBounds_toArray, List.set_cons_zero, List.set_cons_succ]
    refine WE_yes 6 rfl (by kernel_rfl) (fun _ _ _ _ _ h => h) (by rfl) ?_; apply Exists.intro; refine ⟨fun w1 hb1 => ?_, ?_⟩; (focus (((obtain ⟨-, k7, -⟩ := K7.out.to (T.out.trans hb1)); have hb1 := Lib.hid hb1; go_simp); (try (go_bits; try go_simp)); (try (rw [if_pos (by omega)]; try go_simp)); (first | done | (fail) | (with_reducible rfl) | exact rfl)))
    simp only [Act.put, List.setIfInBounds_toArray, List.set_cons_zero, List.set_cons_succ]
    refine WE_one 5 rfl (by decide) (by kernel_rfl) ?_
    unfold stepE
    go_wp2_with fail
    refine (HIN.out _).mono ?_
    rintro e wK ⟨aK, bK, vK, rfl, hvK, hb, -⟩
    have HVK := Lib.hid hvK
    have hbd := Lib.hid (hb.mono T.out.size)
    replace T := Lib.hid (T.out.trans hbd.out)
    clear hb hvK
    go_wp2_with fail
    refine ⟨hbd.out, ?_⟩
    clear hbd
    refine WE_one 7 rfl (by decide) (by kernel_rfl) ?_
    unfold stepE
    go_wp2_with fail
    refine (HML.out _ _ _ _ _ _ _ _ HVK.out (HVA.out.to T.out) HSZ0.out.1 HSZ0.out.2.1 HSZ0.out.2.2).mono ?_
    rintro e wR ⟨aR, bR, vR, rfl, hvR, hb, hlR⟩
    have HVR := Lib.hid hvR
    have HLR := Lib.hid (fun (P : Nat → Prop) (h : ∀ b, w.heap.size + 2 ≤ b → P b) => hlR P (fun b hb => h b (by have := T.out.size; omega)) (fun i hi => by cases hi))
    have hbd := Lib.hid (hb.mono T.out.size)
    replace T := Lib.hid (T.out.trans hbd.out)
    clear hb hlR
    obtain ⟨sR, nR, cR, sS, nS, cS, rfl, -, -⟩ := hvR
    go_wp2_with fail
    refine ⟨hbd.out, ?_⟩
    clear hbd
    replace K2 := Lib.hid (K2.out.to T.out)
    replace HB := Lib.hid (bThen HB.out T.out)
    clear T
    refine WE_tail rfl (by kernel_rfl) ?_
    simp only [List.drop_succ_cons, List.drop_zero]
    obtain ⟨hk2, k2, f2⟩ := K2.out
    go_wp2_with fail
    clear k2 f2
    have FF := ((((K2.out.set 0 (.int .i64 sR)).set 1 (.slice aR nR cR)).set 2 (.int .i64 sS)).set 3 (.slice bR nS cS)).2.1
    have F0 := FF 0; have F1 := FF 1; have F2 := FF 2; have F3 := FF 3
    clear FF
    refine bodyPost_ret (v := .agg #[.int .i64 sR, .slice aR nR cR, .int .i64 sS, .slice bR nS cS]) ?_ rfl ?_
    · simp [results, Try.results113, go_sem, F0, F1, F2, F3]
    · have e1 : Loc (fun c => c ≠ w.heap.size + 1) aR _ := (HLR.out _ (fun b hb => by omega)).1
      have e2 : Loc (fun c => c ≠ w.heap.size + 1) bR _ := (HLR.out _ (fun b hb => by omega)).2
      refine ⟨aR, bR, _, rfl, ?_, (((HB.out.setCell (p := ⟨w.heap.size + 1, 0, none⟩) (by dsimp only; omega) _).setCell (p := ⟨w.heap.size + 1, 1, none⟩) (by dsimp only; omega) _).setCell (p := ⟨w.heap.size + 1, 2, none⟩) (by dsimp only; omega) _).setCell (p := ⟨w.heap.size + 1, 3, none⟩) (by dsimp only; omega) _, ?_⟩
      · rw [← HQ.out]
        exact (((HVR.out.set1 e1 e2 _).set1 e1 e2 _).set1 e1 e2 _).set1 e1 e2 _
      · intro P hf _
        rw [← HQ.out]
        exact HLR.out P (fun b hb => hf b (by omega))

end Go.Proofs.Ytjieojkfpoiabaa

