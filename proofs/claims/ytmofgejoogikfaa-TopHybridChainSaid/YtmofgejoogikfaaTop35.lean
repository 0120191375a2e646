/-
  Texts of this claim, in their build order: V6.
-/
import Derived.Test.YtmofgejoogikfaaTop20

/-
  What CheckHalves asks of one node.
-/
namespace Go.Proofs.Ytmofgejoogikfaa
open Go.RowKit

def nbB (l : List (Int × Int)) (k : Nat) : Int × Int := if 0 < k then fg l (k - 1) else (0, 1)
def nbA (l : List (Int × Int)) (nd k : Nat) : Int × Int := if k = nd then (0, 1) else if k + 1 < l.length then fg l (k + 1) else (0, 1)
def nbU (ks : List Int) (nd k : Nat) : Int := if k = nd then 0 else if k + 1 < ks.length then gi ks (k + 1) else 0
def nbF (fs : List Int) (F : Int) (nd k : Nat) : Int := if k = nd then gi fs k + F else gi fs k
/-- The error of a node's balance. -/
def nbE (ks fs : List Int) (l : List (Int × Int)) (F : Int) (nd k : Nat) : Int := unl (decide (balS (nbB l k) (fg l k) (nbA l nd k) (gi ks k) (nbU ks nd k) (nbF fs F nd k) = 0)) 19
theorem SmF.unit : SmF (0, 1) := ⟨by decide, by decide, by decide, by decide⟩

set_option maxHeartbeats 3200000 in
set_option maxRecDepth 100000 in
theorem CheckHalves2_any (ks fs : List Int) (l : List (Int × Int)) (F : Int) (nd k Bc Bl Bn Bh : Nat) (a1 a2 al b1 b2 : Option Addr) (c1 c2 cl m1 d1 m2 d2 : Nat) (w : World) (hok : ChOk ks fs) (hl : l.length = ks.length) (hk : k < ks.length) (hF0 : -8000 ≤ F) (hF1 : F ≤ 8000) (hsm : ∀ j, j < l.length → SmF (fg l j))
    (hc : Blk w Bc (chV a1 ks.length c1 a2 ks.length c2)) (hbl : Blk w Bl #[.slice al ks.length cl]) (hbn : Blk w Bn #[.int .i64 nd]) (hbh : Blk w Bh (hvV b1 m1 d1 b2 m2 d2 F)) (hr1 : Reads w a1 ks.length (ints ks)) (hr2 : Reads w a2 ks.length (ints fs)) (hrl : Reads w al (ks.length * 2) (fracs l)) :
    Calls Try.prog 73 #[.int .i64 k, .agg #[.int .i64 (fg l k).1, .int .i64 (fg l k).2], .pointer (some ⟨Bc, 0, none⟩), .pointer (some ⟨Bl, 0, none⟩), .pointer (some ⟨Bn, 0, none⟩), .pointer (some ⟨Bh, 0, none⟩)] w
      fun e w' => e = .returned (.int .i64 (nbE ks fs l F nd k)) ∧ Below w.heap.size w w' := by
  have hfew := hok.few
  have hSo := hsm k (by omega)
  have hSb : SmF (nbB l k) := by
    unfold nbB; split
    · exact hsm _ (by omega)
    · exact SmF.unit
  have hSa : SmF (nbA l nd k) := by
    unfold nbA; split
    · exact SmF.unit
    · split
      · exact hsm _ (by omega)
      · exact SmF.unit
  have hU : 0 ≤ nbU ks nd k ∧ nbU ks nd k ≤ 20 := by
    unfold nbU; split
    · omega
    · split
      · have := hok.k1 (k + 1) (by omega); omega
      · omega
  have hFF : -9000 ≤ nbF fs F nd k ∧ nbF fs F nd k ≤ 9000 := by
    have := hok.f1 k hk
    unfold nbF; split <;> omega
  have hkk := hok.k1 k hk
  have HBAL := Lib.hid (fun W => balanced_any (nbB l k) (fg l k) (nbA l nd k) (gi ks k) (nbU ks nd k) (nbF fs F nd k) W hSb hSo hSa (by omega) (by omega) hU.1 hU.2 hFF.1 hFF.2)
  have HC := Lib.hid hc
  have HBL := Lib.hid hbl
  have HBN := Lib.hid hbn
  have HBH := Lib.hid hbh
  have HRL := Lib.hid hrl
  obtain ⟨o1, q1, rfl, hb1, hx1⟩ := hr1.at (k := k) hk
  obtain ⟨o2, q2, rfl, hb2, hx2⟩ := hr2.at (k := k) hk
  obtain ⟨o3, q3, rfl, hb3, hx3⟩ := hrl.at (k := k * 2) (by omega)
  have KK := Lib.hid (hx1 k hk)
  have KF := Lib.hid (hx2 k hk)
  have KK1 := Lib.hid (fun h : k + 1 < ks.length => hx1 (k + 1) h)
  have KL := Lib.hid hx3
  have hszc := hc.1
  have hszl := hbl.1
  have hszn := hbn.1
  have hszh := hbh.1
  have hf := hok.f1 k hk
  obtain ⟨f, hff⟩ : ∃ f, gi fs k = f := ⟨_, rfl⟩
  obtain ⟨x, hxx⟩ : ∃ f, gi ks k = f := ⟨_, rfl⟩
  obtain ⟨on, od, hoo⟩ : ∃ on od, fg l k = (on, od) := ⟨_, _, rfl⟩
  have KF2 : Hid (w.cell? ⟨o2, q2 + k, none⟩ = some (.int .i64 f)) := Lib.hid (by rw [KF.out, ← hff]; rfl)
  have KK2 : Hid (w.cell? ⟨o1, q1 + k, none⟩ = some (.int .i64 x)) := Lib.hid (by rw [KK.out, ← hxx]; rfl)
  have HFV : Hid (gi fs k = f) := Lib.hid hff
  rw [hff] at hf
  rw [hxx, hoo] at HBAL
  rw [hoo]
  unfold nbE
  rw [hxx, hoo]
  obtain ⟨ok, hokk⟩ : ∃ ok, decide (balS (nbB l k) (on, od) (nbA l nd k) x (nbU ks nd k) (nbF fs F nd k) = 0) = ok := ⟨_, rfl⟩
  rw [hokk] at HBAL ⊢
  dsimp only at HBAL ⊢
  clear hokk hff hxx hoo hx1 hx2 hx3 hr1 hr2 hrl hc hbl hbn hbh hok hsm hSo hSb hSa hU hFF hkk KF KK
  go_enter Try.func73, Try.ntmps73
  go_upto_region 1 with (fail)
  obtain ⟨w3, hw3⟩ : ∃ w3, w.alloc (.cells #[.int .i64 on, .int .i64 od] 55) = w3 := ⟨_, rfl⟩
  rw [hw3]
  have K7 : Hid (Blk w3 w.heap.size #[.int .i64 on, .int .i64 od]) := by subst hw3; exact Lib.hid (Blk.new _ _ _)
  have HB : Hid (Below w.heap.size w w3) := by subst hw3; exact Lib.hid (bAlloc (bSelf w) _)
  clear hw3
  have hs3 : w.heap.size < w3.heap.size := K7.out.1
  go_cut [9, 10, 11, 12] (fun s9 s10 s11 s12 wc => ∃ B9 B10, s9 = .pointer (some ⟨B9, 0, none⟩) ∧ s10 = .pointer (some ⟨B10, 0, none⟩) ∧ s11 = .int .i64 0 ∧ s12 = .int .i64 f ∧ Hid (Blk wc B9 #[.int .i64 0, .int .i64 1]) ∧ Hid (Blk wc B10 #[.int .i64 0, .int .i64 1]) ∧ Hid (Below w3.heap.size w3 wc) ∧ Hid (w3.heap.size ≤ B9 ∧ w3.heap.size ≤ B10 ∧ B9 ≠ B10))
  case first =>
    refine wp_region_tree (by kernel_rfl) (fun wd hwd => ?_)
    have T := Lib.hid hwd
    clear hwd
    refine WT_yes 0 rfl (by kernel_rfl) (fun _ _ _ _ _ h => h) (by rfl) ?_; apply Exists.intro; refine ⟨fun w1 hb1 => ?_, ?_⟩; (focus ((skip; have hb1 := Lib.hid hb1; go_simp); (try (go_bits; try go_simp)); (try (rw [if_pos (by omega)]; try go_simp)); (first | done | (fail) | (with_reducible rfl) | exact rfl)))
    simp only [Act.put, List.setIfInBounds_toArray, List.set_cons_zero, List.set_cons_succ]
    refine WT_yes 1 rfl (by kernel_rfl) (fun _ _ _ _ _ h => h) (by rfl) ?_; apply Exists.intro; refine ⟨fun w1 hb1 => ?_, ?_⟩; (focus ((skip; have hb1 := Lib.hid hb1; go_simp); (try (go_bits; try go_simp)); (try (rw [if_pos (by omega)]; try go_simp)); (first | done | (fail) | (with_reducible rfl) | exact rfl)))
    simp only [Act.put, List.setIfInBounds_toArray, List.set_cons_zero, List.set_cons_succ]
    refine WT_yes 2 rfl (by kernel_rfl) (fun _ _ _ _ _ h => h) (by rfl) ?_; apply Exists.intro; refine ⟨fun w1 hb1 => ?_, ?_⟩; (focus ((skip; have hb1 := Lib.hid hb1; go_simp); (try (go_bits; try go_simp)); (try (rw [if_pos (by omega)]; try go_simp)); (first | done | (fail) | (with_reducible rfl) | exact rfl)))
    simp only [Act.put, List.setIfInBounds_toArray, List.set_cons_zero, List.set_cons_succ]
    refine WT_yes 3 rfl (by kernel_rfl) (fun _ _ _ _ _ h => h) (by rfl) ?_; apply Exists.intro; refine ⟨fun w1 hb1 => ?_, ?_⟩; (focus (((obtain ⟨-, kc, -⟩ := (HC.out.to HB.out).to (T.out.trans hb1)); have hb1 := Lib.hid hb1; go_simp); (try (go_bits; try go_simp)); (try (rw [if_pos (by omega)]; try go_simp)); (first | done | (fail) | (with_reducible rfl) | exact rfl)))
    simp only [Act.put, List.setIfInBounds_toArray, List.set_cons_zero, List.set_cons_succ]
    refine WT_yes 4 rfl (by kernel_rfl) (fun _ _ _ _ _ h => h) (by rfl) ?_; apply Exists.intro; refine ⟨fun w1 hb1 => ?_, ?_⟩; (focus ((skip; have hb1 := Lib.hid hb1; go_simp); (try (go_bits; try go_simp)); (try (rw [if_pos (by omega)]; try go_simp)); (first | done | (fail) | (with_reducible rfl) | exact rfl)))
    simp only [Act.put, List.setIfInBounds_toArray, List.set_cons_zero, List.set_cons_succ]
    refine WT_yes 5 rfl (by kernel_rfl) (fun _ _ _ _ _ h => h) (by rfl) ?_; apply Exists.intro; refine ⟨fun w1 hb1 => ?_, ?_⟩; (focus ((skip; have hb1 := Lib.hid hb1; go_simp); (try (go_bits; try go_simp)); (try (rw [if_pos (by omega)]; try go_simp)); (first | done | (fail) | (with_reducible rfl) | exact rfl)))
    simp only [Act.put, List.setIfInBounds_toArray, List.set_cons_zero, List.set_cons_succ]
    refine WT_yes 6 rfl (by kernel_rfl) (fun _ _ _ _ _ h => h) (by rfl) ?_; apply Exists.intro; refine ⟨fun w1 hb1 => ?_, ?_⟩; (focus (((have kf := ((HB.out.trans ((T.out.trans hb1).mono (Nat.le_of_lt hs3))).cell (p := ⟨o2, q2 + k, none⟩) hb2).trans KF2.out); have hb1 := Lib.hid hb1; go_simp); (try (go_bits; try go_simp)); (try (rw [if_pos (by omega)]; try go_simp)); (first | done | (fail) | (with_reducible rfl) | exact rfl)))
    simp only [Act.put, List.setIfInBounds_toArray, List.set_cons_zero, List.set_cons_succ]
    refine WT_two 7 8 rfl rfl (by kernel_rfl) ?_ ?_
    · skip
      unfold stepT
      go_wp2_with fail
      have hbd : Hid (Below w3.heap.size wd (wd.alloc (.cells #[.int .i64 0, .int .i64 0] 55))) := Lib.hid ((Below.refl _ _).alloc T.out.size _)
      refine ⟨hbd.out, ?_⟩
      have KA := Lib.hid (Blk.new wd #[.int .i64 0, .int .i64 0] 55)
      have hN1 : w3.heap.size ≤ wd.heap.size := T.out.size
      replace T := Lib.hid (T.out.trans hbd.out)
      clear hbd
      obtain ⟨wA, hwA⟩ : ∃ wA, wd.alloc (.cells #[.int .i64 0, .int .i64 0] 55) = wA := ⟨_, rfl⟩
      rw [hwA] at T KA ⊢
      obtain ⟨B9, hBe⟩ : ∃ B, wd.heap.size = B := ⟨_, rfl⟩
      rw [hBe] at KA hN1 ⊢
      clear hwA hBe
      refine WT_one 8 rfl (by kernel_rfl) ?_
      unfold stepT
      go_wp2_with fail
      have hbd : Hid (Below w3.heap.size wA (wA.alloc (.cells #[.int .i64 0, .int .i64 0] 55))) := Lib.hid ((Below.refl _ _).alloc T.out.size _)
      refine ⟨hbd.out, ?_⟩
      have KB := Lib.hid (Blk.new wA #[.int .i64 0, .int .i64 0] 55)
      have hN2 : w3.heap.size ≤ wA.heap.size := T.out.size
      have hAB : B9 < wA.heap.size := KA.out.1
      replace KA := Lib.hid (KA.out.alloc (.cells #[.int .i64 0, .int .i64 0] 55))
      replace T := Lib.hid (T.out.trans hbd.out)
      clear hbd
      obtain ⟨wB, hwB⟩ : ∃ wB, wA.alloc (.cells #[.int .i64 0, .int .i64 0] 55) = wB := ⟨_, rfl⟩
      rw [hwB] at T KA KB ⊢
      obtain ⟨B10, hBe⟩ : ∃ B, wA.heap.size = B := ⟨_, rfl⟩
      rw [hBe] at KB hN2 hAB ⊢
      clear hwB hBe
      refine WT_one 9 rfl (by kernel_rfl) ?_
      unfold stepT
      obtain ⟨hka, ka, fa⟩ := KA.out
      go_wp2_with fail
      clear ka fa
      have hbd : Hid (Below w3.heap.size wB ((wB.setCell ⟨B9, 0, none⟩ (.int .i64 0)).setCell ⟨B9, 1, none⟩ (.int .i64 1))) := Lib.hid (((Below.refl _ _).setCell (p := ⟨B9, 0, none⟩) (by dsimp only; omega) _).setCell (p := ⟨B9, 1, none⟩) (by dsimp only; omega) _)
      refine ⟨hbd.out, ?_⟩
      replace T := Lib.hid (T.out.trans hbd.out)
      have K9 : Hid (Blk ((wB.setCell ⟨B9, 0, none⟩ (.int .i64 0)).setCell ⟨B9, 1, none⟩ (.int .i64 1)) B9 #[.int .i64 0, .int .i64 1]) := Lib.hid ((KA.out.set 0 (.int .i64 0)).set 1 (.int .i64 1))
      have K10 : Hid (Blk ((wB.setCell ⟨B9, 0, none⟩ (.int .i64 0)).setCell ⟨B9, 1, none⟩ (.int .i64 1)) B10 #[.int .i64 0, .int .i64 0]) := Lib.hid ((KB.out.other (p := ⟨B9, 0, none⟩) (by dsimp only; omega) _).other (p := ⟨B9, 1, none⟩) (by dsimp only; omega) _)
      obtain ⟨wC, hwC⟩ : ∃ wC, (wB.setCell ⟨B9, 0, none⟩ (.int .i64 0)).setCell ⟨B9, 1, none⟩ (.int .i64 1) = wC := ⟨_, rfl⟩
      rw [hwC] at T K9 K10 ⊢
      clear hwC hbd KA KB hka
      refine WT_one 10 rfl (by kernel_rfl) ?_
      unfold stepT
      obtain ⟨hka, ka, fa⟩ := K10.out
      go_wp2_with fail
      clear ka fa
      have hbd : Hid (Below w3.heap.size wC ((wC.setCell ⟨B10, 0, none⟩ (.int .i64 0)).setCell ⟨B10, 1, none⟩ (.int .i64 1))) := Lib.hid (((Below.refl _ _).setCell (p := ⟨B10, 0, none⟩) (by dsimp only; omega) _).setCell (p := ⟨B10, 1, none⟩) (by dsimp only; omega) _)
      refine ⟨hbd.out, ?_⟩
      replace T := Lib.hid (T.out.trans hbd.out)
      replace K9 : Hid (Blk ((wC.setCell ⟨B10, 0, none⟩ (.int .i64 0)).setCell ⟨B10, 1, none⟩ (.int .i64 1)) B9 #[.int .i64 0, .int .i64 1]) := Lib.hid ((K9.out.other (p := ⟨B10, 0, none⟩) (by dsimp only; omega) _).other (p := ⟨B10, 1, none⟩) (by dsimp only; omega) _)
      replace K10 : Hid (Blk ((wC.setCell ⟨B10, 0, none⟩ (.int .i64 0)).setCell ⟨B10, 1, none⟩ (.int .i64 1)) B10 #[.int .i64 0, .int .i64 1]) := Lib.hid ((K10.out.set 0 (.int .i64 0)).set 1 (.int .i64 1))
      refine WT_one 11 rfl (by kernel_rfl) ?_
      unfold stepT
      go_wp2_with fail
      refine ⟨Below.refl _ _, ?_⟩
      refine WT_one 12 rfl (by kernel_rfl) ?_
      unfold stepT
      go_wp2_with fail
      refine ⟨Below.refl _ _, ?_⟩
      refine WT_done (by kernel_rfl) ?_
      go_wp2_with fail
      go_meet
      case rel => exact ⟨B9, B10, rfl, rfl, rfl, rfl, K9, K10, T, Lib.hid ⟨by omega, by omega, by omega⟩⟩
    · skip
      unfold stepT
      go_wp2_with fail
      have hbd : Hid (Below w3.heap.size wd (wd.alloc (.cells #[.int .i64 0, .int .i64 0] 55))) := Lib.hid ((Below.refl _ _).alloc T.out.size _)
      refine ⟨hbd.out, ?_⟩
      have KA := Lib.hid (Blk.new wd #[.int .i64 0, .int .i64 0] 55)
      have hN1 : w3.heap.size ≤ wd.heap.size := T.out.size
      replace T := Lib.hid (T.out.trans hbd.out)
      clear hbd
      obtain ⟨wA, hwA⟩ : ∃ wA, wd.alloc (.cells #[.int .i64 0, .int .i64 0] 55) = wA := ⟨_, rfl⟩
      rw [hwA] at T KA ⊢
      obtain ⟨B10, hBe⟩ : ∃ B, wd.heap.size = B := ⟨_, rfl⟩
      rw [hBe] at KA hN1 ⊢
      clear hwA hBe
      refine WT_one 7 rfl (by kernel_rfl) ?_
      unfold stepT
      go_wp2_with fail
      have hbd : Hid (Below w3.heap.size wA (wA.alloc (.cells #[.int .i64 0, .int .i64 0] 55))) := Lib.hid ((Below.refl _ _).alloc T.out.size _)
      refine ⟨hbd.out, ?_⟩
      have KB := Lib.hid (Blk.new wA #[.int .i64 0, .int .i64 0] 55)
      have hN2 : w3.heap.size ≤ wA.heap.size := T.out.size
      have hAB : B10 < wA.heap.size := KA.out.1
      replace KA := Lib.hid (KA.out.alloc (.cells #[.int .i64 0, .int .i64 0] 55))
      replace T := Lib.hid (T.out.trans hbd.out)
      clear hbd
      obtain ⟨wB, hwB⟩ : ∃ wB, wA.alloc (.cells #[.int .i64 0, .int .i64 0] 55) = wB := ⟨_, rfl⟩
      rw [hwB] at T KA KB ⊢
      obtain ⟨B9, hBe⟩ : ∃ B, wA.heap.size = B := ⟨_, rfl⟩
      rw [hBe] at KB hN2 hAB ⊢
      clear hwB hBe
      refine WT_one 9 rfl (by kernel_rfl) ?_
      unfold stepT
      obtain ⟨hka, ka, fa⟩ := KB.out
      go_wp2_with fail
      clear ka fa
      have hbd : Hid (Below w3.heap.size wB ((wB.setCell ⟨B9, 0, none⟩ (.int .i64 0)).setCell ⟨B9, 1, none⟩ (.int .i64 1))) := Lib.hid (((Below.refl _ _).setCell (p := ⟨B9, 0, none⟩) (by dsimp only; omega) _).setCell (p := ⟨B9, 1, none⟩) (by dsimp only; omega) _)
      refine ⟨hbd.out, ?_⟩
      replace T := Lib.hid (T.out.trans hbd.out)
      have K9 : Hid (Blk ((wB.setCell ⟨B9, 0, none⟩ (.int .i64 0)).setCell ⟨B9, 1, none⟩ (.int .i64 1)) B9 #[.int .i64 0, .int .i64 1]) := Lib.hid ((KB.out.set 0 (.int .i64 0)).set 1 (.int .i64 1))
      have K10 : Hid (Blk ((wB.setCell ⟨B9, 0, none⟩ (.int .i64 0)).setCell ⟨B9, 1, none⟩ (.int .i64 1)) B10 #[.int .i64 0, .int .i64 0]) := Lib.hid ((KA.out.other (p := ⟨B9, 0, none⟩) (by dsimp only; omega) _).other (p := ⟨B9, 1, none⟩) (by dsimp only; omega) _)
      obtain ⟨wC, hwC⟩ : ∃ wC, (wB.setCell ⟨B9, 0, none⟩ (.int .i64 0)).setCell ⟨B9, 1, none⟩ (.int .i64 1) = wC := ⟨_, rfl⟩
      rw [hwC] at T K9 K10 ⊢
      clear hwC hbd KA KB hka
      refine WT_one 10 rfl (by kernel_rfl) ?_
      unfold stepT
      obtain ⟨hka, ka, fa⟩ := K10.out
      go_wp2_with fail
      clear ka fa
      have hbd : Hid (Below w3.heap.size wC ((wC.setCell ⟨B10, 0, none⟩ (.int .i64 0)).setCell ⟨B10, 1, none⟩ (.int .i64 1))) := Lib.hid (((Below.refl _ _).setCell (p := ⟨B10, 0, none⟩) (by dsimp only; omega) _).setCell (p := ⟨B10, 1, none⟩) (by dsimp only; omega) _)
      refine ⟨hbd.out, ?_⟩
      replace T := Lib.hid (T.out.trans hbd.out)
      replace K9 : Hid (Blk ((wC.setCell ⟨B10, 0, none⟩ (.int .i64 0)).setCell ⟨B10, 1, none⟩ (.int .i64 1)) B9 #[.int .i64 0, .int .i64 1]) := Lib.hid ((K9.out.other (p := ⟨B10, 0, none⟩) (by dsimp only; omega) _).other (p := ⟨B10, 1, none⟩) (by dsimp only; omega) _)
      replace K10 : Hid (Blk ((wC.setCell ⟨B10, 0, none⟩ (.int .i64 0)).setCell ⟨B10, 1, none⟩ (.int .i64 1)) B10 #[.int .i64 0, .int .i64 1]) := Lib.hid ((K10.out.set 0 (.int .i64 0)).set 1 (.int .i64 1))
      refine WT_one 11 rfl (by kernel_rfl) ?_
      unfold stepT
      go_wp2_with fail
      refine ⟨Below.refl _ _, ?_⟩
      refine WT_one 12 rfl (by kernel_rfl) ?_
      unfold stepT
      go_wp2_with fail
      refine ⟨Below.refl _ _, ?_⟩
      refine WT_done (by kernel_rfl) ?_
      go_wp2_with fail
      go_meet
      case rel => exact ⟨B9, B10, rfl, rfl, rfl, rfl, K9, K10, T, Lib.hid ⟨by omega, by omega, by omega⟩⟩
  case rest =>
    obtain ⟨B9, B10, rfl, rfl, rfl, rfl, K9, K10, HC2, hBB⟩ := hcut
    obtain ⟨hB9, hB10, hBne⟩ := hBB.out
    obtain ⟨wo, hwo⟩ : ∃ wo, wo = wc := ⟨_, rfl⟩
    subst hwo
    replace K7 := Lib.hid (K7.out.to HC2.out)
    replace HB := Lib.hid (bThen HB.out HC2.out)
    clear HC2 hBB
    have hswo : B9 < wo.heap.size := K9.out.1
    have hswo2 : B10 < wo.heap.size := K10.out.1
    replace HC := Lib.hid (HC.out.to HB.out)
    replace HBL := Lib.hid (HBL.out.to HB.out)
    replace HBN := Lib.hid (HBN.out.to HB.out)
    replace HBH := Lib.hid (HBH.out.to HB.out)
    have KL2 := Lib.hid (fun i (hi : i < ks.length * 2) => (HB.out.cell (p := ⟨o3, q3 + i, none⟩) hb3).trans (KL.out i hi))
    have KX := Lib.hid ((HB.out.cell (p := ⟨o1, q1 + k, none⟩) hb1).trans KK2.out)
    have KX1 := Lib.hid (fun h : k + 1 < ks.length => (HB.out.cell (p := ⟨o1, q1 + (k + 1), none⟩) hb1).trans (KK1.out h))
    clear KL KK1 KK2 KF2
    have hb1' : o1 < w.heap.size := hb1
    by_cases hk0 : 0 < k
    · have eB : nbB l k = fg l (k - 1) := by unfold nbB; rw [if_pos hk0]
      rw [eB] at HBAL
      obtain ⟨bn, bd, hbv⟩ : ∃ bn bd, fg l (k - 1) = (bn, bd) := ⟨_, _, rfl⟩
      have KB1 : Hid (wo.cell? ⟨o3, q3 + (k - 1) * 2, none⟩ = some (.int .i64 bn)) := Lib.hid (by rw [KL2.out _ (by omega), fracs0, hbv])
      have KB2 : Hid (wo.cell? ⟨o3, q3 + (k - 1) * 2 + 1, none⟩ = some (.int .i64 bd)) := Lib.hid (by rw [Nat.add_assoc, KL2.out _ (by omega), fracs1, hbv])
      rw [hbv] at HBAL
      dsimp only at HBAL
      have hq0 : decide ((0 : Int) < (k : Int)) = true := decide_eq_true (by omega)
      obtain ⟨j, rfl⟩ : ∃ j, k = j + 1 := ⟨k - 1, by omega⟩
      rw [show j + 1 - 1 = j by omega] at KB1 KB2
      have kb1 := KB1.out
      have kb2 := KB2.out
      obtain ⟨-, kl, -⟩ := HBL.out
      obtain ⟨hk9, k9, f9⟩ := K9.out
      clear eB hbv
      go_upto_region 4 with (fail)
      have hbd : Hid (Below w3.heap.size wo ((wo.setCell ⟨B9, 0, none⟩ (.int .i64 bn)).setCell ⟨B9, 1, none⟩ (.int .i64 bd))) := Lib.hid (((Below.refl _ _).setCell (p := ⟨B9, 0, none⟩) (by dsimp only; omega) _).setCell (p := ⟨B9, 1, none⟩) (by dsimp only; omega) _)
      clear k9 f9 kl kb1 kb2 KB1 KB2
      replace K7 := Lib.hid ((K7.out.other (p := ⟨B9, 0, none⟩) (by dsimp only; omega) (.int .i64 bn)).other (p := ⟨B9, 1, none⟩) (by dsimp only; omega) (.int .i64 bd))
      replace K9 : Hid (Blk ((wo.setCell ⟨B9, 0, none⟩ (.int .i64 bn)).setCell ⟨B9, 1, none⟩ (.int .i64 bd)) B9 #[.int .i64 bn, .int .i64 bd]) := Lib.hid ((K9.out.set 0 (.int .i64 bn)).set 1 (.int .i64 bd))
      replace K10 := Lib.hid ((K10.out.other (p := ⟨B9, 0, none⟩) (by dsimp only; omega) (.int .i64 bn)).other (p := ⟨B9, 1, none⟩) (by dsimp only; omega) (.int .i64 bd))
      replace HC := Lib.hid ((HC.out.other (p := ⟨B9, 0, none⟩) (by dsimp only; omega) (.int .i64 bn)).other (p := ⟨B9, 1, none⟩) (by dsimp only; omega) (.int .i64 bd))
      replace HBL := Lib.hid ((HBL.out.other (p := ⟨B9, 0, none⟩) (by dsimp only; omega) (.int .i64 bn)).other (p := ⟨B9, 1, none⟩) (by dsimp only; omega) (.int .i64 bd))
      replace HBN := Lib.hid ((HBN.out.other (p := ⟨B9, 0, none⟩) (by dsimp only; omega) (.int .i64 bn)).other (p := ⟨B9, 1, none⟩) (by dsimp only; omega) (.int .i64 bd))
      replace HBH := Lib.hid ((HBH.out.other (p := ⟨B9, 0, none⟩) (by dsimp only; omega) (.int .i64 bn)).other (p := ⟨B9, 1, none⟩) (by dsimp only; omega) (.int .i64 bd))
      replace KL2 := Lib.hid (fun i (hi : i < ks.length * 2) => (hbd.out.cell (p := ⟨o3, q3 + i, none⟩) (show o3 < w3.heap.size by omega)).trans (KL2.out i hi))
      replace KX := Lib.hid ((hbd.out.cell (p := ⟨o1, q1 + (j + 1), none⟩) (show o1 < w3.heap.size by omega)).trans KX.out)
      replace KX1 := Lib.hid (fun h : j + 1 + 1 < ks.length => (hbd.out.cell (p := ⟨o1, q1 + (j + 1 + 1), none⟩) (show o1 < w3.heap.size by omega)).trans (KX1.out h))
      replace HB := Lib.hid (HB.out.trans (hbd.out.mono (by omega)))
      have hszF : ((wo.setCell ⟨B9, 0, none⟩ (.int .i64 bn)).setCell ⟨B9, 1, none⟩ (.int .i64 bd)).heap.size = wo.heap.size := by simp [World.setCell]
      obtain ⟨wF, hwF⟩ : ∃ wF, (wo.setCell ⟨B9, 0, none⟩ (.int .i64 bn)).setCell ⟨B9, 1, none⟩ (.int .i64 bd) = wF := ⟨_, rfl⟩
      rw [hwF] at K7 K9 K10 HC HBL HBN HBH KL2 KX KX1 HB hszF ⊢
      clear hwF hbd hq0 hk9
      rw [← hszF] at hswo hswo2
      obtain ⟨k, hkj⟩ : ∃ k, j + 1 = k := ⟨_, rfl⟩
      rw [hkj] at hk hk0 HFV HBAL KX KX1 ⊢
      clear hszF hkj
      by_cases hnd : k = nd
      · have eA : nbA l nd k = (0, 1) := by unfold nbA; rw [if_pos hnd]
        have eU : nbU ks nd k = 0 := by unfold nbU; rw [if_pos hnd]
        have eF : nbF fs F nd k = f + F := by unfold nbF; rw [if_pos hnd, HFV.out]
        rw [eA, eU, eF] at HBAL
        dsimp only at HBAL
        have hq : ((k : Int) == (nd : Int)) = true := by rw [hnd]; simp
        have hq2 : (k : Int) = nd := by omega
        have hFs : -9223372036854775808 ≤ f + F := by omega
        have hFs2 : f + F ≤ 9223372036854775807 := by omega
        subst hnd
        clear hq2 eA eU eF
        obtain ⟨-, kn, -⟩ := HBN.out
        obtain ⟨-, kh, -⟩ := HBH.out
        have hsN : w.heap.size < wF.heap.size := K7.out.1
        go_upto_region 8 with (fail)
        refine wp_region_tree (by kernel_rfl) (fun wd hwd => ?_)
        have T := Lib.hid hwd
        clear hwd
        refine WT_yes 0 rfl (by kernel_rfl) (fun _ _ _ _ _ h => h) (by rfl) ?_; apply Exists.intro; refine ⟨fun w1 hb1 => ?_, ?_⟩; (focus (((obtain ⟨-, k9, -⟩ := K9.out.to (T.out.trans hb1)); have hb1 := Lib.hid hb1; go_simp); (try (go_bits; try go_simp)); (try (rw [if_pos (by omega)]; try go_simp)); (first | done | (fail) | (with_reducible rfl) | exact rfl)))
        simp only [Act.put, List.setIfInBounds_toArray, List.set_cons_zero, List.set_cons_succ]
        refine WT_yes 1 rfl (by kernel_rfl) (fun _ _ _ _ _ h => h) (by rfl) ?_; apply Exists.intro; refine ⟨fun w1 hb1 => ?_, ?_⟩; (focus (((obtain ⟨-, k7, -⟩ := K7.out.to (T.out.trans hb1)); have hb1 := Lib.hid hb1; go_simp); (try (go_bits; try go_simp)); (try (rw [if_pos (by omega)]; try go_simp)); (first | done | (fail) | (with_reducible rfl) | exact rfl)))
        simp only [Act.put, List.setIfInBounds_toArray, List.set_cons_zero, List.set_cons_succ]
        refine WT_yes 2 rfl (by kernel_rfl) (fun _ _ _ _ _ h => h) (by rfl) ?_; apply Exists.intro; refine ⟨fun w1 hb1 => ?_, ?_⟩; (focus (((obtain ⟨-, k10, -⟩ := K10.out.to (T.out.trans hb1)); have hb1 := Lib.hid hb1; go_simp); (try (go_bits; try go_simp)); (try (rw [if_pos (by omega)]; try go_simp)); (first | done | (fail) | (with_reducible rfl) | exact rfl)))
        simp only [Act.put, List.setIfInBounds_toArray, List.set_cons_zero, List.set_cons_succ]
        refine WT_yes 3 rfl (by kernel_rfl) (fun _ _ _ _ _ h => h) (by rfl) ?_; apply Exists.intro; refine ⟨fun w1 hb1 => ?_, ?_⟩; (focus ((skip; have hb1 := Lib.hid hb1; go_simp); (try (go_bits; try go_simp)); (try (rw [if_pos (by omega)]; try go_simp)); (first | done | (fail) | (with_reducible rfl) | exact rfl)))
        simp only [Act.put, List.setIfInBounds_toArray, List.set_cons_zero, List.set_cons_succ]
        refine WT_yes 4 rfl (by kernel_rfl) (fun _ _ _ _ _ h => h) (by rfl) ?_; apply Exists.intro; refine ⟨fun w1 hb1 => ?_, ?_⟩; (focus (((obtain ⟨-, kc, -⟩ := HC.out.to (T.out.trans hb1)); have hb1 := Lib.hid hb1; go_simp); (try (go_bits; try go_simp)); (try (rw [if_pos (by omega)]; try go_simp)); (first | done | (fail) | (with_reducible rfl) | exact rfl)))
        simp only [Act.put, List.setIfInBounds_toArray, List.set_cons_zero, List.set_cons_succ]
        refine WT_yes 5 rfl (by kernel_rfl) (fun _ _ _ _ _ h => h) (by rfl) ?_; apply Exists.intro; refine ⟨fun w1 hb1 => ?_, ?_⟩; (focus ((skip; have hb1 := Lib.hid hb1; go_simp); (try (go_bits; try go_simp)); (try (rw [if_pos (by omega)]; try go_simp)); (first | done | (fail) | (with_reducible rfl) | exact rfl)))
        simp only [Act.put, List.setIfInBounds_toArray, List.set_cons_zero, List.set_cons_succ]
        refine WT_yes 6 rfl (by kernel_rfl) (fun _ _ _ _ _ h => h) (by rfl) ?_; apply Exists.intro; refine ⟨fun w1 hb1 => ?_, ?_⟩; (focus ((skip; have hb1 := Lib.hid hb1; go_simp); (try (go_bits; try go_simp)); (try (rw [if_pos (by omega)]; try go_simp)); (first | done | (fail) | (with_reducible rfl) | exact rfl)))
        simp only [Act.put, List.setIfInBounds_toArray, List.set_cons_zero, List.set_cons_succ]
        refine WT_yes 7 rfl (by kernel_rfl) (fun _ _ _ _ _ h => h) (by rfl) ?_; apply Exists.intro; refine ⟨fun w1 hb1 => ?_, ?_⟩; (focus (((have kx := ((T.out.trans hb1).cell (p := ⟨o1, q1 + k, none⟩) (show o1 < wF.heap.size by omega)).trans KX.out); have hb1 := Lib.hid hb1; go_simp); (try (go_bits; try go_simp)); (try (rw [if_pos (by omega)]; try go_simp)); (first | done | (fail) | (with_reducible rfl) | exact rfl)))
        simp only [Act.put, List.setIfInBounds_toArray, List.set_cons_zero, List.set_cons_succ]
        refine WT_yes 8 rfl (by kernel_rfl) (fun _ _ _ _ _ h => h) (by rfl) ?_; apply Exists.intro; refine ⟨fun w1 hb1 => ?_, ?_⟩; (focus ((skip; have hb1 := Lib.hid hb1; go_simp); (try (go_bits; try go_simp)); (try (rw [if_pos (by omega)]; try go_simp)); (first | done | (fail) | (with_reducible rfl) | exact rfl)))
        simp only [Act.put, List.setIfInBounds_toArray, List.set_cons_zero, List.set_cons_succ]
        refine WT_yes 9 rfl (by kernel_rfl) (fun _ _ _ _ _ h => h) (by rfl) ?_; apply Exists.intro; refine ⟨fun w1 hb1 => ?_, ?_⟩; (focus ((skip; have hb1 := Lib.hid hb1; go_simp); (try (go_bits; try go_simp)); (try (rw [if_pos (by omega)]; try go_simp)); (first | done | (fail) | (with_reducible rfl) | exact rfl)))
        simp only [Act.put, List.setIfInBounds_toArray, List.set_cons_zero, List.set_cons_succ]
        refine WT_one 10 rfl (by kernel_rfl) ?_
        unfold stepT
        go_wp2_with fail
        refine (HBAL.out _).mono ?_
        rintro e wZ ⟨rfl, hb⟩
        have hbd := Lib.hid (hb.mono T.out.size)
        replace T := Lib.hid (T.out.trans hbd.out)
        clear hb
        go_wp2_with fail
        refine ⟨hbd.out, ?_⟩
        clear hbd
        refine WT_one 11 rfl (by kernel_rfl) ?_
        unfold stepT
        go_wp2_with fail
        refine (unless_any _ _ _).mono ?_
        rintro e w' ⟨rfl, rfl⟩
        go_wp2_with fail
        refine ⟨Below.refl _ _, ?_⟩
        refine WT_one 12 rfl (by kernel_rfl) ?_
        unfold stepT
        go_wp2_with fail
        refine ⟨Below.refl _ _, ?_⟩
        refine WT_done (by kernel_rfl) ?_
        go_wp2_with fail
        go_ret
        exact ⟨rfl, bThen HB.out T.out⟩
      · have hq : ((k : Int) == (nd : Int)) = false := by rw [beq_eq_false_iff_ne]; omega
        have hq2 : ¬ (k : Int) = nd := by omega
        have eF : nbF fs F nd k = f := by unfold nbF; rw [if_neg hnd, HFV.out]
        by_cases hup : k + 1 < ks.length
        · have eA : nbA l nd k = fg l (k + 1) := by unfold nbA; rw [if_neg hnd, if_pos (by omega)]
          have eU : nbU ks nd k = gi ks (k + 1) := by unfold nbU; rw [if_neg hnd, if_pos hup]
          rw [eA, eU, eF] at HBAL
          have hqu : decide ((k : Int) + 1 < (ks.length : Int)) = true := decide_eq_true (by omega)
          obtain ⟨an, ad, hav⟩ : ∃ an ad, fg l (k + 1) = (an, ad) := ⟨_, _, rfl⟩
          obtain ⟨up, huv⟩ : ∃ up, gi ks (k + 1) = up := ⟨_, rfl⟩
          rw [hav, huv] at HBAL
          dsimp only at HBAL
          have KA1 : Hid (wF.cell? ⟨o3, q3 + (k + 1) * 2, none⟩ = some (.int .i64 an)) := Lib.hid (by rw [KL2.out _ (by omega), fracs0, hav])
          have KA2 : Hid (wF.cell? ⟨o3, q3 + (k + 1) * 2 + 1, none⟩ = some (.int .i64 ad)) := Lib.hid (by rw [Nat.add_assoc, KL2.out _ (by omega), fracs1, hav])
          have KU : Hid (wF.cell? ⟨o1, q1 + (k + 1), none⟩ = some (.int .i64 up)) := Lib.hid (by rw [KX1.out hup, ← huv]; rfl)
          clear eA eU eF hav huv
          obtain ⟨-, kn, -⟩ := HBN.out
          obtain ⟨-, kl, -⟩ := HBL.out
          go_upto_region 7 with (fail)
          clear kn kl
          refine wp_region_treeN w.heap.size (by kernel_rfl) (fun wd hwd => ?_)
          have T := Lib.hid hwd
          clear hwd
          refine WT_yes 0 rfl (by kernel_rfl) (fun _ _ _ _ _ h => h) (by rfl) ?_; apply Exists.intro; refine ⟨fun w1 hb1 => ?_, ?_⟩; (focus (((obtain ⟨-, kl, -⟩ := HBL.out.below ((T.out.mono (show w.heap.size ≤ wF.heap.size by omega)).trans hb1) hszl); have hb1 := Lib.hid hb1; go_simp); (try (go_bits; try go_simp)); (try (rw [if_pos (by omega)]; try go_simp)); (first | done | (fail) | (with_reducible rfl) | exact rfl)))
          simp only [Act.put, List.setIfInBounds_toArray, List.set_cons_zero, List.set_cons_succ]
          refine WT_yes 1 rfl (by kernel_rfl) (fun _ _ _ _ _ h => h) (by rfl) ?_; apply Exists.intro; refine ⟨fun w1 hb1 => ?_, ?_⟩; (focus ((skip; have hb1 := Lib.hid hb1; go_simp); (try (go_bits; try go_simp)); (try (rw [if_pos (by omega)]; try go_simp)); (first | done | (fail) | (with_reducible rfl) | exact rfl)))
          simp only [Act.put, List.setIfInBounds_toArray, List.set_cons_zero, List.set_cons_succ]
          refine WT_yes 2 rfl (by kernel_rfl) (fun _ _ _ _ _ h => h) (by rfl) ?_; apply Exists.intro; refine ⟨fun w1 hb1 => ?_, ?_⟩; (focus ((skip; have hb1 := Lib.hid hb1; go_simp); (try (go_bits; try go_simp)); (try (rw [if_pos (by omega)]; try go_simp)); (first | done | (fail) | (with_reducible rfl) | exact rfl)))
          simp only [Act.put, List.setIfInBounds_toArray, List.set_cons_zero, List.set_cons_succ]
          refine WT_yes 3 rfl (by kernel_rfl) (fun _ _ _ _ _ h => h) (by rfl) ?_; apply Exists.intro; refine ⟨fun w1 hb1 => ?_, ?_⟩; (focus ((skip; have hb1 := Lib.hid hb1; go_simp); (try (go_bits; try go_simp)); (try (rw [if_pos (by omega)]; try go_simp)); (first | done | (fail) | (with_reducible rfl) | exact rfl)))
          simp only [Act.put, List.setIfInBounds_toArray, List.set_cons_zero, List.set_cons_succ]
          refine WT_yes 4 rfl (by kernel_rfl) (fun _ _ _ _ _ h => h) (by rfl) ?_; apply Exists.intro; refine ⟨fun w1 hb1 => ?_, ?_⟩; (focus (((have ka1 := (((T.out.mono (show w.heap.size ≤ wF.heap.size by omega)).trans hb1).cell (p := ⟨o3, q3 + (k + 1) * 2, none⟩) hb3).trans KA1.out; have ka2 := (((T.out.mono (show w.heap.size ≤ wF.heap.size by omega)).trans hb1).cell (p := ⟨o3, q3 + (k + 1) * 2 + 1, none⟩) hb3).trans KA2.out); have hb1 := Lib.hid hb1; go_simp); (try (go_bits; try go_simp)); (try (rw [if_pos (by omega)]; try go_simp)); (first | done | (fail) | (with_reducible rfl) | exact rfl)))
          simp only [Act.put, List.setIfInBounds_toArray, List.set_cons_zero, List.set_cons_succ]
          refine WT_yes 5 rfl (by kernel_rfl) (fun _ _ _ _ _ h => h) (by rfl) ?_; apply Exists.intro; refine ⟨fun w1 hb1 => ?_, ?_⟩; (focus ((skip; have hb1 := Lib.hid hb1; go_simp); (try (go_bits; try go_simp)); (try (rw [if_pos (by omega)]; try go_simp)); (first | done | (fail) | (with_reducible rfl) | exact rfl)))
          simp only [Act.put, List.setIfInBounds_toArray, List.set_cons_zero, List.set_cons_succ]
          refine WT_yes 6 rfl (by kernel_rfl) (fun _ _ _ _ _ h => h) (by rfl) ?_; apply Exists.intro; refine ⟨fun w1 hb1 => ?_, ?_⟩; (focus (((obtain ⟨-, kc, -⟩ := HC.out.below ((T.out.mono (show w.heap.size ≤ wF.heap.size by omega)).trans hb1) hszc); have hb1 := Lib.hid hb1; go_simp); (try (go_bits; try go_simp)); (try (rw [if_pos (by omega)]; try go_simp)); (first | done | (fail) | (with_reducible rfl) | exact rfl)))
          simp only [Act.put, List.setIfInBounds_toArray, List.set_cons_zero, List.set_cons_succ]
          refine WT_yes 7 rfl (by kernel_rfl) (fun _ _ _ _ _ h => h) (by rfl) ?_; apply Exists.intro; refine ⟨fun w1 hb1 => ?_, ?_⟩; (focus ((skip; have hb1 := Lib.hid hb1; go_simp); (try (go_bits; try go_simp)); (try (rw [if_pos (by omega)]; try go_simp)); (first | done | (fail) | (with_reducible rfl) | exact rfl)))
          simp only [Act.put, List.setIfInBounds_toArray, List.set_cons_zero, List.set_cons_succ]
          refine WT_yes 8 rfl (by kernel_rfl) (fun _ _ _ _ _ h => h) (by rfl) ?_; apply Exists.intro; refine ⟨fun w1 hb1 => ?_, ?_⟩; (focus ((skip; have hb1 := Lib.hid hb1; go_simp); (try (go_bits; try go_simp)); (try (rw [if_pos (by omega)]; try go_simp)); (first | done | (fail) | (with_reducible rfl) | exact rfl)))
          simp only [Act.put, List.setIfInBounds_toArray, List.set_cons_zero, List.set_cons_succ]
          refine WT_yes 9 rfl (by kernel_rfl) (fun _ _ _ _ _ h => h) (by rfl) ?_; apply Exists.intro; refine ⟨fun w1 hb1 => ?_, ?_⟩; (focus ((skip; have hb1 := Lib.hid hb1; go_simp); (try (go_bits; try go_simp)); (try (rw [if_pos (by omega)]; try go_simp)); (first | done | (fail) | (with_reducible rfl) | exact rfl)))
          simp only [Act.put, List.setIfInBounds_toArray, List.set_cons_zero, List.set_cons_succ]
          refine WT_yes 10 rfl (by kernel_rfl) (fun _ _ _ _ _ h => h) (by rfl) ?_; apply Exists.intro; refine ⟨fun w1 hb1 => ?_, ?_⟩; (focus (((have ku := (((T.out.mono (show w.heap.size ≤ wF.heap.size by omega)).trans hb1).cell (p := ⟨o1, q1 + (k + 1), none⟩) hb1').trans KU.out); have hb1 := Lib.hid hb1; go_simp); (try (go_bits; try go_simp)); (try (rw [if_pos (by omega)]; try go_simp)); (first | done | (fail) | (with_reducible rfl) | exact rfl)))
          simp only [Act.put, List.setIfInBounds_toArray, List.set_cons_zero, List.set_cons_succ]
          replace K7 := Lib.hid (K7.out.to T.out)
          replace K9 := Lib.hid (K9.out.to T.out)
          replace K10 := Lib.hid (K10.out.to T.out)
          replace HC := Lib.hid (HC.out.to T.out)
          replace KX := Lib.hid ((T.out.cell (p := ⟨o1, q1 + k, none⟩) (show o1 < wF.heap.size by omega)).trans KX.out)
          have hszd : wF.heap.size ≤ wd.heap.size := T.out.size
          replace HB := Lib.hid (bThen HB.out T.out)
          clear T
          refine WT_one 11 rfl (by kernel_rfl) ?_
          unfold stepT
          obtain ⟨hkx, kx, fx⟩ := K10.out
          go_wp2_with fail
          clear kx fx
          have hbd : Hid (Below w.heap.size wd ((wd.setCell ⟨B10, 0, none⟩ (.int .i64 an)).setCell ⟨B10, 1, none⟩ (.int .i64 ad))) := Lib.hid (((Below.refl _ _).setCell (p := ⟨B10, 0, none⟩) (by dsimp only; omega) _).setCell (p := ⟨B10, 1, none⟩) (by dsimp only; omega) _)
          refine ⟨hbd.out, ?_⟩
          have hne : ∀ {b o : Nat}, b < w.heap.size → ∀ j, (⟨b, o, none⟩ : Addr) ≠ ⟨B10, j, none⟩ := fun hb j e => by cases e; omega
          replace K7 := Lib.hid ((K7.out.other (p := ⟨B10, 0, none⟩) (by dsimp only; omega) (.int .i64 an)).other (p := ⟨B10, 1, none⟩) (by dsimp only; omega) (.int .i64 ad))
          replace K9 := Lib.hid ((K9.out.other (p := ⟨B10, 0, none⟩) (by dsimp only; omega) (.int .i64 an)).other (p := ⟨B10, 1, none⟩) (by dsimp only; omega) (.int .i64 ad))
          replace K10 : Hid (Blk ((wd.setCell ⟨B10, 0, none⟩ (.int .i64 an)).setCell ⟨B10, 1, none⟩ (.int .i64 ad)) B10 #[.int .i64 an, .int .i64 ad]) := Lib.hid ((K10.out.set 0 (.int .i64 an)).set 1 (.int .i64 ad))
          replace HC := Lib.hid ((HC.out.other (p := ⟨B10, 0, none⟩) (by dsimp only; omega) (.int .i64 an)).other (p := ⟨B10, 1, none⟩) (by dsimp only; omega) (.int .i64 ad))
          replace KX := Lib.hid ((hbd.out.cell (p := ⟨o1, q1 + k, none⟩) hb1').trans KX.out)
          replace HB := Lib.hid (HB.out.trans hbd.out)
          have hszw : ((wd.setCell ⟨B10, 0, none⟩ (.int .i64 an)).setCell ⟨B10, 1, none⟩ (.int .i64 ad)).heap.size = wd.heap.size := by simp [World.setCell]
          obtain ⟨wE, hwE⟩ : ∃ wE, (wd.setCell ⟨B10, 0, none⟩ (.int .i64 an)).setCell ⟨B10, 1, none⟩ (.int .i64 ad) = wE := ⟨_, rfl⟩
          rw [hwE] at K7 K9 K10 HC KX HB hszw ⊢
          clear hwE hbd hne
          refine WT_one 12 rfl (by kernel_rfl) ?_
          unfold stepT
          go_wp2_with fail
          refine ⟨Below.refl _ _, ?_⟩
          refine WT_done (by kernel_rfl) ?_
          have hsN : w.heap.size < wE.heap.size := K7.out.1
          go_upto_region 8 with (fail)
          refine wp_region_tree (by kernel_rfl) (fun wd hwd => ?_)
          have T := Lib.hid hwd
          clear hwd
          refine WT_yes 0 rfl (by kernel_rfl) (fun _ _ _ _ _ h => h) (by rfl) ?_; apply Exists.intro; refine ⟨fun w1 hb1 => ?_, ?_⟩; (focus (((obtain ⟨-, k9, -⟩ := K9.out.to (T.out.trans hb1)); have hb1 := Lib.hid hb1; go_simp); (try (go_bits; try go_simp)); (try (rw [if_pos (by omega)]; try go_simp)); (first | done | (fail) | (with_reducible rfl) | exact rfl)))
          simp only [Act.put, List.setIfInBounds_toArray, List.set_cons_zero, List.set_cons_succ]
          refine WT_yes 1 rfl (by kernel_rfl) (fun _ _ _ _ _ h => h) (by rfl) ?_; apply Exists.intro; refine ⟨fun w1 hb1 => ?_, ?_⟩; (focus (((obtain ⟨-, k7, -⟩ := K7.out.to (T.out.trans hb1)); have hb1 := Lib.hid hb1; go_simp); (try (go_bits; try go_simp)); (try (rw [if_pos (by omega)]; try go_simp)); (first | done | (fail) | (with_reducible rfl) | exact rfl)))
          simp only [Act.put, List.setIfInBounds_toArray, List.set_cons_zero, List.set_cons_succ]
          refine WT_yes 2 rfl (by kernel_rfl) (fun _ _ _ _ _ h => h) (by rfl) ?_; apply Exists.intro; refine ⟨fun w1 hb1 => ?_, ?_⟩; (focus (((obtain ⟨-, k10, -⟩ := K10.out.to (T.out.trans hb1)); have hb1 := Lib.hid hb1; go_simp); (try (go_bits; try go_simp)); (try (rw [if_pos (by omega)]; try go_simp)); (first | done | (fail) | (with_reducible rfl) | exact rfl)))
          simp only [Act.put, List.setIfInBounds_toArray, List.set_cons_zero, List.set_cons_succ]
          refine WT_yes 3 rfl (by kernel_rfl) (fun _ _ _ _ _ h => h) (by rfl) ?_; apply Exists.intro; refine ⟨fun w1 hb1 => ?_, ?_⟩; (focus ((skip; have hb1 := Lib.hid hb1; go_simp); (try (go_bits; try go_simp)); (try (rw [if_pos (by omega)]; try go_simp)); (first | done | (fail) | (with_reducible rfl) | exact rfl)))
          simp only [Act.put, List.setIfInBounds_toArray, List.set_cons_zero, List.set_cons_succ]
          refine WT_yes 4 rfl (by kernel_rfl) (fun _ _ _ _ _ h => h) (by rfl) ?_; apply Exists.intro; refine ⟨fun w1 hb1 => ?_, ?_⟩; (focus (((obtain ⟨-, kc, -⟩ := HC.out.to (T.out.trans hb1)); have hb1 := Lib.hid hb1; go_simp); (try (go_bits; try go_simp)); (try (rw [if_pos (by omega)]; try go_simp)); (first | done | (fail) | (with_reducible rfl) | exact rfl)))
          simp only [Act.put, List.setIfInBounds_toArray, List.set_cons_zero, List.set_cons_succ]
          refine WT_yes 5 rfl (by kernel_rfl) (fun _ _ _ _ _ h => h) (by rfl) ?_; apply Exists.intro; refine ⟨fun w1 hb1 => ?_, ?_⟩; (focus ((skip; have hb1 := Lib.hid hb1; go_simp); (try (go_bits; try go_simp)); (try (rw [if_pos (by omega)]; try go_simp)); (first | done | (fail) | (with_reducible rfl) | exact rfl)))
          simp only [Act.put, List.setIfInBounds_toArray, List.set_cons_zero, List.set_cons_succ]
          refine WT_yes 6 rfl (by kernel_rfl) (fun _ _ _ _ _ h => h) (by rfl) ?_; apply Exists.intro; refine ⟨fun w1 hb1 => ?_, ?_⟩; (focus ((skip; have hb1 := Lib.hid hb1; go_simp); (try (go_bits; try go_simp)); (try (rw [if_pos (by omega)]; try go_simp)); (first | done | (fail) | (with_reducible rfl) | exact rfl)))
          simp only [Act.put, List.setIfInBounds_toArray, List.set_cons_zero, List.set_cons_succ]
          refine WT_yes 7 rfl (by kernel_rfl) (fun _ _ _ _ _ h => h) (by rfl) ?_; apply Exists.intro; refine ⟨fun w1 hb1 => ?_, ?_⟩; (focus (((have kx := ((T.out.trans hb1).cell (p := ⟨o1, q1 + k, none⟩) (show o1 < wE.heap.size by omega)).trans KX.out); have hb1 := Lib.hid hb1; go_simp); (try (go_bits; try go_simp)); (try (rw [if_pos (by omega)]; try go_simp)); (first | done | (fail) | (with_reducible rfl) | exact rfl)))
          simp only [Act.put, List.setIfInBounds_toArray, List.set_cons_zero, List.set_cons_succ]
          refine WT_yes 8 rfl (by kernel_rfl) (fun _ _ _ _ _ h => h) (by rfl) ?_; apply Exists.intro; refine ⟨fun w1 hb1 => ?_, ?_⟩; (focus ((skip; have hb1 := Lib.hid hb1; go_simp); (try (go_bits; try go_simp)); (try (rw [if_pos (by omega)]; try go_simp)); (first | done | (fail) | (with_reducible rfl) | exact rfl)))
          simp only [Act.put, List.setIfInBounds_toArray, List.set_cons_zero, List.set_cons_succ]
          refine WT_yes 9 rfl (by kernel_rfl) (fun _ _ _ _ _ h => h) (by rfl) ?_; apply Exists.intro; refine ⟨fun w1 hb1 => ?_, ?_⟩; (focus ((skip; have hb1 := Lib.hid hb1; go_simp); (try (go_bits; try go_simp)); (try (rw [if_pos (by omega)]; try go_simp)); (first | done | (fail) | (with_reducible rfl) | exact rfl)))
          simp only [Act.put, List.setIfInBounds_toArray, List.set_cons_zero, List.set_cons_succ]
          refine WT_one 10 rfl (by kernel_rfl) ?_
          unfold stepT
          go_wp2_with fail
          refine (HBAL.out _).mono ?_
          rintro e wZ ⟨rfl, hb⟩
          have hbd := Lib.hid (hb.mono T.out.size)
          replace T := Lib.hid (T.out.trans hbd.out)
          clear hb
          go_wp2_with fail
          refine ⟨hbd.out, ?_⟩
          clear hbd
          refine WT_one 11 rfl (by kernel_rfl) ?_
          unfold stepT
          go_wp2_with fail
          refine (unless_any _ _ _).mono ?_
          rintro e w' ⟨rfl, rfl⟩
          go_wp2_with fail
          refine ⟨Below.refl _ _, ?_⟩
          refine WT_one 12 rfl (by kernel_rfl) ?_
          unfold stepT
          go_wp2_with fail
          refine ⟨Below.refl _ _, ?_⟩
          refine WT_done (by kernel_rfl) ?_
          go_wp2_with fail
          go_ret
          exact ⟨rfl, bThen HB.out T.out⟩
        · have eA : nbA l nd k = (0, 1) := by unfold nbA; rw [if_neg hnd, if_neg (by omega)]
          have eU : nbU ks nd k = 0 := by unfold nbU; rw [if_neg hnd, if_neg hup]
          rw [eA, eU, eF] at HBAL
          dsimp only at HBAL
          have hqu : decide ((k : Int) + 1 < (ks.length : Int)) = false := decide_eq_false (by omega)
          clear eA eU eF
          obtain ⟨-, kn, -⟩ := HBN.out
          obtain ⟨-, kl, -⟩ := HBL.out
          have hsN : w.heap.size < wF.heap.size := K7.out.1
          go_upto_region 8 with (fail)
          refine wp_region_tree (by kernel_rfl) (fun wd hwd => ?_)
          have T := Lib.hid hwd
          clear hwd
          refine WT_yes 0 rfl (by kernel_rfl) (fun _ _ _ _ _ h => h) (by rfl) ?_; apply Exists.intro; refine ⟨fun w1 hb1 => ?_, ?_⟩; (focus (((obtain ⟨-, k9, -⟩ := K9.out.to (T.out.trans hb1)); have hb1 := Lib.hid hb1; go_simp); (try (go_bits; try go_simp)); (try (rw [if_pos (by omega)]; try go_simp)); (first | done | (fail) | (with_reducible rfl) | exact rfl)))
          simp only [Act.put, List.setIfInBounds_toArray, List.set_cons_zero, List.set_cons_succ]
          refine WT_yes 1 rfl (by kernel_rfl) (fun _ _ _ _ _ h => h) (by rfl) ?_; apply Exists.intro; refine ⟨fun w1 hb1 => ?_, ?_⟩; (focus (((obtain ⟨-, k7, -⟩ := K7.out.to (T.out.trans hb1)); have hb1 := Lib.hid hb1; go_simp); (try (go_bits; try go_simp)); (try (rw [if_pos (by omega)]; try go_simp)); (first | done | (fail) | (with_reducible rfl) | exact rfl)))
          simp only [Act.put, List.setIfInBounds_toArray, List.set_cons_zero, List.set_cons_succ]
          refine WT_yes 2 rfl (by kernel_rfl) (fun _ _ _ _ _ h => h) (by rfl) ?_; apply Exists.intro; refine ⟨fun w1 hb1 => ?_, ?_⟩; (focus (((obtain ⟨-, k10, -⟩ := K10.out.to (T.out.trans hb1)); have hb1 := Lib.hid hb1; go_simp); (try (go_bits; try go_simp)); (try (rw [if_pos (by omega)]; try go_simp)); (first | done | (fail) | (with_reducible rfl) | exact rfl)))
          simp only [Act.put, List.setIfInBounds_toArray, List.set_cons_zero, List.set_cons_succ]
          refine WT_yes 3 rfl (by kernel_rfl) (fun _ _ _ _ _ h => h) (by rfl) ?_; apply Exists.intro; refine ⟨fun w1 hb1 => ?_, ?_⟩; (focus ((skip; have hb1 := Lib.hid hb1; go_simp); (try (go_bits; try go_simp)); (try (rw [if_pos (by omega)]; try go_simp)); (first | done | (fail) | (with_reducible rfl) | exact rfl)))
          simp only [Act.put, List.setIfInBounds_toArray, List.set_cons_zero, List.set_cons_succ]
          refine WT_yes 4 rfl (by kernel_rfl) (fun _ _ _ _ _ h => h) (by rfl) ?_; apply Exists.intro; refine ⟨fun w1 hb1 => ?_, ?_⟩; (focus (((obtain ⟨-, kc, -⟩ := HC.out.to (T.out.trans hb1)); have hb1 := Lib.hid hb1; go_simp); (try (go_bits; try go_simp)); (try (rw [if_pos (by omega)]; try go_simp)); (first | done | (fail) | (with_reducible rfl) | exact rfl)))
          simp only [Act.put, List.setIfInBounds_toArray, List.set_cons_zero, List.set_cons_succ]
          refine WT_yes 5 rfl (by kernel_rfl) (fun _ _ _ _ _ h => h) (by rfl) ?_; apply Exists.intro; refine ⟨fun w1 hb1 => ?_, ?_⟩; (focus ((skip; have hb1 := Lib.hid hb1; go_simp); (try (go_bits; try go_simp)); (try (rw [if_pos (by omega)]; try go_simp)); (first | done | (fail) | (with_reducible rfl) | exact rfl)))
          simp only [Act.put, List.setIfInBounds_toArray, List.set_cons_zero, List.set_cons_succ]
          refine WT_yes 6 rfl (by kernel_rfl) (fun _ _ _ _ _ h => h) (by rfl) ?_; apply Exists.intro; refine ⟨fun w1 hb1 => ?_, ?_⟩; (focus ((skip; have hb1 := Lib.hid hb1; go_simp); (try (go_bits; try go_simp)); (try (rw [if_pos (by omega)]; try go_simp)); (first | done | (fail) | (with_reducible rfl) | exact rfl)))
          simp only [Act.put, List.setIfInBounds_toArray, List.set_cons_zero, List.set_cons_succ]
          refine WT_yes 7 rfl (by kernel_rfl) (fun _ _ _ _ _ h => h) (by rfl) ?_; apply Exists.intro; refine ⟨fun w1 hb1 => ?_, ?_⟩; (focus (((have kx := ((T.out.trans hb1).cell (p := ⟨o1, q1 + k, none⟩) (show o1 < wF.heap.size by omega)).trans KX.out); have hb1 := Lib.hid hb1; go_simp); (try (go_bits; try go_simp)); (try (rw [if_pos (by omega)]; try go_simp)); (first | done | (fail) | (with_reducible rfl) | exact rfl)))
          simp only [Act.put, List.setIfInBounds_toArray, List.set_cons_zero, List.set_cons_succ]
          refine WT_yes 8 rfl (by kernel_rfl) (fun _ _ _ _ _ h => h) (by rfl) ?_; apply Exists.intro; refine ⟨fun w1 hb1 => ?_, ?_⟩; (focus ((skip; have hb1 := Lib.hid hb1; go_simp); (try (go_bits; try go_simp)); (try (rw [if_pos (by omega)]; try go_simp)); (first | done | (fail) | (with_reducible rfl) | exact rfl)))
          simp only [Act.put, List.setIfInBounds_toArray, List.set_cons_zero, List.set_cons_succ]
          refine WT_yes 9 rfl (by kernel_rfl) (fun _ _ _ _ _ h => h) (by rfl) ?_; apply Exists.intro; refine ⟨fun w1 hb1 => ?_, ?_⟩; (focus ((skip; have hb1 := Lib.hid hb1; go_simp); (try (go_bits; try go_simp)); (try (rw [if_pos (by omega)]; try go_simp)); (first | done | (fail) | (with_reducible rfl) | exact rfl)))
          simp only [Act.put, List.setIfInBounds_toArray, List.set_cons_zero, List.set_cons_succ]
          refine WT_one 10 rfl (by kernel_rfl) ?_
          unfold stepT
          go_wp2_with fail
          refine (HBAL.out _).mono ?_
          rintro e wZ ⟨rfl, hb⟩
          have hbd := Lib.hid (hb.mono T.out.size)
          replace T := Lib.hid (T.out.trans hbd.out)
          clear hb
          go_wp2_with fail
          refine ⟨hbd.out, ?_⟩
          clear hbd
          refine WT_one 11 rfl (by kernel_rfl) ?_
          unfold stepT
          go_wp2_with fail
          refine (unless_any _ _ _).mono ?_
          rintro e w' ⟨rfl, rfl⟩
          go_wp2_with fail
          refine ⟨Below.refl _ _, ?_⟩
          refine WT_one 12 rfl (by kernel_rfl) ?_
          unfold stepT
          go_wp2_with fail
          refine ⟨Below.refl _ _, ?_⟩
          refine WT_done (by kernel_rfl) ?_
          go_wp2_with fail
          go_ret
          exact ⟨rfl, bThen HB.out T.out⟩
    · have eB : nbB l k = (0, 1) := by unfold nbB; rw [if_neg hk0]
      rw [eB] at HBAL
      dsimp only at HBAL
      have hq0 : decide ((0 : Int) < (k : Int)) = false := decide_eq_false (by omega)
      have hqN : decide (0 < k) = false := decide_eq_false hk0
      clear eB hk0
      by_cases hnd : k = nd
      · have eA : nbA l nd k = (0, 1) := by unfold nbA; rw [if_pos hnd]
        have eU : nbU ks nd k = 0 := by unfold nbU; rw [if_pos hnd]
        have eF : nbF fs F nd k = f + F := by unfold nbF; rw [if_pos hnd, HFV.out]
        rw [eA, eU, eF] at HBAL
        dsimp only at HBAL
        have hq : ((k : Int) == (nd : Int)) = true := by rw [hnd]; simp
        have hq2 : (k : Int) = nd := by omega
        have hFs : -9223372036854775808 ≤ f + F := by omega
        have hFs2 : f + F ≤ 9223372036854775807 := by omega
        subst hnd
        clear hq2 eA eU eF
        obtain ⟨-, kn, -⟩ := HBN.out
        obtain ⟨-, kh, -⟩ := HBH.out
        have hsN : w.heap.size < wo.heap.size := K7.out.1
        go_upto_region 8 with (fail)
        refine wp_region_tree (by kernel_rfl) (fun wd hwd => ?_)
        have T := Lib.hid hwd
        clear hwd
        refine WT_yes 0 rfl (by kernel_rfl) (fun _ _ _ _ _ h => h) (by rfl) ?_; apply Exists.intro; refine ⟨fun w1 hb1 => ?_, ?_⟩; (focus (((obtain ⟨-, k9, -⟩ := K9.out.to (T.out.trans hb1)); have hb1 := Lib.hid hb1; go_simp); (try (go_bits; try go_simp)); (try (rw [if_pos (by omega)]; try go_simp)); (first | done | (fail) | (with_reducible rfl) | exact rfl)))
        simp only [Act.put, List.setIfInBounds_toArray, List.set_cons_zero, List.set_cons_succ]
        refine WT_yes 1 rfl (by kernel_rfl) (fun _ _ _ _ _ h => h) (by rfl) ?_; apply Exists.intro; refine ⟨fun w1 hb1 => ?_, ?_⟩; (focus (((obtain ⟨-, k7, -⟩ := K7.out.to (T.out.trans hb1)); have hb1 := Lib.hid hb1; go_simp); (try (go_bits; try go_simp)); (try (rw [if_pos (by omega)]; try go_simp)); (first | done | (fail) | (with_reducible rfl) | exact rfl)))
        simp only [Act.put, List.setIfInBounds_toArray, List.set_cons_zero, List.set_cons_succ]
        refine WT_yes 2 rfl (by kernel_rfl) (fun _ _ _ _ _ h => h) (by rfl) ?_; apply Exists.intro; refine ⟨fun w1 hb1 => ?_, ?_⟩; (focus (((obtain ⟨-, k10, -⟩ := K10.out.to (T.out.trans hb1)); have hb1 := Lib.hid hb1; go_simp); (try (go_bits; try go_simp)); (try (rw [if_pos (by omega)]; try go_simp)); (first | done | (fail) | (with_reducible rfl) | exact rfl)))
        simp only [Act.put, List.setIfInBounds_toArray, List.set_cons_zero, List.set_cons_succ]
        refine WT_yes 3 rfl (by kernel_rfl) (fun _ _ _ _ _ h => h) (by rfl) ?_; apply Exists.intro; refine ⟨fun w1 hb1 => ?_, ?_⟩; (focus ((skip; have hb1 := Lib.hid hb1; go_simp); (try (go_bits; try go_simp)); (try (rw [if_pos (by omega)]; try go_simp)); (first | done | (fail) | (with_reducible rfl) | exact rfl)))
        simp only [Act.put, List.setIfInBounds_toArray, List.set_cons_zero, List.set_cons_succ]
        refine WT_yes 4 rfl (by kernel_rfl) (fun _ _ _ _ _ h => h) (by rfl) ?_; apply Exists.intro; refine ⟨fun w1 hb1 => ?_, ?_⟩; (focus (((obtain ⟨-, kc, -⟩ := HC.out.to (T.out.trans hb1)); have hb1 := Lib.hid hb1; go_simp); (try (go_bits; try go_simp)); (try (rw [if_pos (by omega)]; try go_simp)); (first | done | (fail) | (with_reducible rfl) | exact rfl)))
        simp only [Act.put, List.setIfInBounds_toArray, List.set_cons_zero, List.set_cons_succ]
        refine WT_yes 5 rfl (by kernel_rfl) (fun _ _ _ _ _ h => h) (by rfl) ?_; apply Exists.intro; refine ⟨fun w1 hb1 => ?_, ?_⟩; (focus ((skip; have hb1 := Lib.hid hb1; go_simp); (try (go_bits; try go_simp)); (try (rw [if_pos (by omega)]; try go_simp)); (first | done | (fail) | (with_reducible rfl) | exact rfl)))
        simp only [Act.put, List.setIfInBounds_toArray, List.set_cons_zero, List.set_cons_succ]
        refine WT_yes 6 rfl (by kernel_rfl) (fun _ _ _ _ _ h => h) (by rfl) ?_; apply Exists.intro; refine ⟨fun w1 hb1 => ?_, ?_⟩; (focus ((skip; have hb1 := Lib.hid hb1; go_simp); (try (go_bits; try go_simp)); (try (rw [if_pos (by omega)]; try go_simp)); (first | done | (fail) | (with_reducible rfl) | exact rfl)))
        simp only [Act.put, List.setIfInBounds_toArray, List.set_cons_zero, List.set_cons_succ]
        refine WT_yes 7 rfl (by kernel_rfl) (fun _ _ _ _ _ h => h) (by rfl) ?_; apply Exists.intro; refine ⟨fun w1 hb1 => ?_, ?_⟩; (focus (((have kx := ((T.out.trans hb1).cell (p := ⟨o1, q1 + k, none⟩) (show o1 < wo.heap.size by omega)).trans KX.out); have hb1 := Lib.hid hb1; go_simp); (try (go_bits; try go_simp)); (try (rw [if_pos (by omega)]; try go_simp)); (first | done | (fail) | (with_reducible rfl) | exact rfl)))
        simp only [Act.put, List.setIfInBounds_toArray, List.set_cons_zero, List.set_cons_succ]
        refine WT_yes 8 rfl (by kernel_rfl) (fun _ _ _ _ _ h => h) (by rfl) ?_; apply Exists.intro; refine ⟨fun w1 hb1 => ?_, ?_⟩; (focus ((skip; have hb1 := Lib.hid hb1; go_simp); (try (go_bits; try go_simp)); (try (rw [if_pos (by omega)]; try go_simp)); (first | done | (fail) | (with_reducible rfl) | exact rfl)))
        simp only [Act.put, List.setIfInBounds_toArray, List.set_cons_zero, List.set_cons_succ]
        refine WT_yes 9 rfl (by kernel_rfl) (fun _ _ _ _ _ h => h) (by rfl) ?_; apply Exists.intro; refine ⟨fun w1 hb1 => ?_, ?_⟩; (focus ((skip; have hb1 := Lib.hid hb1; go_simp); (try (go_bits; try go_simp)); (try (rw [if_pos (by omega)]; try go_simp)); (first | done | (fail) | (with_reducible rfl) | exact rfl)))
        simp only [Act.put, List.setIfInBounds_toArray, List.set_cons_zero, List.set_cons_succ]
        refine WT_one 10 rfl (by kernel_rfl) ?_
        unfold stepT
        go_wp2_with fail
        refine (HBAL.out _).mono ?_
        rintro e wZ ⟨rfl, hb⟩
        have hbd := Lib.hid (hb.mono T.out.size)
        replace T := Lib.hid (T.out.trans hbd.out)
        clear hb
        go_wp2_with fail
        refine ⟨hbd.out, ?_⟩
        clear hbd
        refine WT_one 11 rfl (by kernel_rfl) ?_
        unfold stepT
        go_wp2_with fail
        refine (unless_any _ _ _).mono ?_
        rintro e w' ⟨rfl, rfl⟩
        go_wp2_with fail
        refine ⟨Below.refl _ _, ?_⟩
        refine WT_one 12 rfl (by kernel_rfl) ?_
        unfold stepT
        go_wp2_with fail
        refine ⟨Below.refl _ _, ?_⟩
        refine WT_done (by kernel_rfl) ?_
        go_wp2_with fail
        go_ret
        exact ⟨rfl, bThen HB.out T.out⟩
      · have hq : ((k : Int) == (nd : Int)) = false := by rw [beq_eq_false_iff_ne]; omega
        have hq2 : ¬ (k : Int) = nd := by omega
        have eF : nbF fs F nd k = f := by unfold nbF; rw [if_neg hnd, HFV.out]
        by_cases hup : k + 1 < ks.length
        · have eA : nbA l nd k = fg l (k + 1) := by unfold nbA; rw [if_neg hnd, if_pos (by omega)]
          have eU : nbU ks nd k = gi ks (k + 1) := by unfold nbU; rw [if_neg hnd, if_pos hup]
          rw [eA, eU, eF] at HBAL
          have hqu : decide ((k : Int) + 1 < (ks.length : Int)) = true := decide_eq_true (by omega)
          obtain ⟨an, ad, hav⟩ : ∃ an ad, fg l (k + 1) = (an, ad) := ⟨_, _, rfl⟩
          obtain ⟨up, huv⟩ : ∃ up, gi ks (k + 1) = up := ⟨_, rfl⟩
          rw [hav, huv] at HBAL
          dsimp only at HBAL
          have KA1 : Hid (wo.cell? ⟨o3, q3 + (k + 1) * 2, none⟩ = some (.int .i64 an)) := Lib.hid (by rw [KL2.out _ (by omega), fracs0, hav])
          have KA2 : Hid (wo.cell? ⟨o3, q3 + (k + 1) * 2 + 1, none⟩ = some (.int .i64 ad)) := Lib.hid (by rw [Nat.add_assoc, KL2.out _ (by omega), fracs1, hav])
          have KU : Hid (wo.cell? ⟨o1, q1 + (k + 1), none⟩ = some (.int .i64 up)) := Lib.hid (by rw [KX1.out hup, ← huv]; rfl)
          clear eA eU eF hav huv
          obtain ⟨-, kn, -⟩ := HBN.out
          obtain ⟨-, kl, -⟩ := HBL.out
          go_upto_region 7 with (fail)
          clear kn kl
          refine wp_region_treeN w.heap.size (by kernel_rfl) (fun wd hwd => ?_)
          have T := Lib.hid hwd
          clear hwd
          refine WT_yes 0 rfl (by kernel_rfl) (fun _ _ _ _ _ h => h) (by rfl) ?_; apply Exists.intro; refine ⟨fun w1 hb1 => ?_, ?_⟩; (focus (((obtain ⟨-, kl, -⟩ := HBL.out.below ((T.out.mono (show w.heap.size ≤ wo.heap.size by omega)).trans hb1) hszl); have hb1 := Lib.hid hb1; go_simp); (try (go_bits; try go_simp)); (try (rw [if_pos (by omega)]; try go_simp)); (first | done | (fail) | (with_reducible rfl) | exact rfl)))
          simp only [Act.put, List.setIfInBounds_toArray, List.set_cons_zero, List.set_cons_succ]
          refine WT_yes 1 rfl (by kernel_rfl) (fun _ _ _ _ _ h => h) (by rfl) ?_; apply Exists.intro; refine ⟨fun w1 hb1 => ?_, ?_⟩; (focus ((skip; have hb1 := Lib.hid hb1; go_simp); (try (go_bits; try go_simp)); (try (rw [if_pos (by omega)]; try go_simp)); (first | done | (fail) | (with_reducible rfl) | exact rfl)))
          simp only [Act.put, List.setIfInBounds_toArray, List.set_cons_zero, List.set_cons_succ]
          refine WT_yes 2 rfl (by kernel_rfl) (fun _ _ _ _ _ h => h) (by rfl) ?_; apply Exists.intro; refine ⟨fun w1 hb1 => ?_, ?_⟩; (focus ((skip; have hb1 := Lib.hid hb1; go_simp); (try (go_bits; try go_simp)); (try (rw [if_pos (by omega)]; try go_simp)); (first | done | (fail) | (with_reducible rfl) | exact rfl)))
          simp only [Act.put, List.setIfInBounds_toArray, List.set_cons_zero, List.set_cons_succ]
          refine WT_yes 3 rfl (by kernel_rfl) (fun _ _ _ _ _ h => h) (by rfl) ?_; apply Exists.intro; refine ⟨fun w1 hb1 => ?_, ?_⟩; (focus ((skip; have hb1 := Lib.hid hb1; go_simp); (try (go_bits; try go_simp)); (try (rw [if_pos (by omega)]; try go_simp)); (first | done | (fail) | (with_reducible rfl) | exact rfl)))
          simp only [Act.put, List.setIfInBounds_toArray, List.set_cons_zero, List.set_cons_succ]
          refine WT_yes 4 rfl (by kernel_rfl) (fun _ _ _ _ _ h => h) (by rfl) ?_; apply Exists.intro; refine ⟨fun w1 hb1 => ?_, ?_⟩; (focus (((have ka1 := (((T.out.mono (show w.heap.size ≤ wo.heap.size by omega)).trans hb1).cell (p := ⟨o3, q3 + (k + 1) * 2, none⟩) hb3).trans KA1.out; have ka2 := (((T.out.mono (show w.heap.size ≤ wo.heap.size by omega)).trans hb1).cell (p := ⟨o3, q3 + (k + 1) * 2 + 1, none⟩) hb3).trans KA2.out); have hb1 := Lib.hid hb1; go_simp); (try (go_bits; try go_simp)); (try (rw [if_pos (by omega)]; try go_simp)); (first | done | (fail) | (with_reducible rfl) | exact rfl)))
          simp only [Act.put, List.setIfInBounds_toArray, List.set_cons_zero, List.set_cons_succ]
          refine WT_yes 5 rfl (by kernel_rfl) (fun _ _ _ _ _ h => h) (by rfl) ?_; apply Exists.intro; refine ⟨fun w1 hb1 => ?_, ?_⟩; (focus ((skip; have hb1 := Lib.hid hb1; go_simp); (try (go_bits; try go_simp)); (try (rw [if_pos (by omega)]; try go_simp)); (first | done | (fail) | (with_reducible rfl) | exact rfl)))
          simp only [Act.put, List.setIfInBounds_toArray, List.set_cons_zero, List.set_cons_succ]
          refine WT_yes 6 rfl (by kernel_rfl) (fun _ _ _ _ _ h => h) (by rfl) ?_; apply Exists.intro; refine ⟨fun w1 hb1 => ?_, ?_⟩; (focus (((obtain ⟨-, kc, -⟩ := HC.out.below ((T.out.mono (show w.heap.size ≤ wo.heap.size by omega)).trans hb1) hszc); have hb1 := Lib.hid hb1; go_simp); (try (go_bits; try go_simp)); (try (rw [if_pos (by omega)]; try go_simp)); (first | done | (fail) | (with_reducible rfl) | exact rfl)))
          simp only [Act.put, List.setIfInBounds_toArray, List.set_cons_zero, List.set_cons_succ]
          refine WT_yes 7 rfl (by kernel_rfl) (fun _ _ _ _ _ h => h) (by rfl) ?_; apply Exists.intro; refine ⟨fun w1 hb1 => ?_, ?_⟩; (focus ((skip; have hb1 := Lib.hid hb1; go_simp); (try (go_bits; try go_simp)); (try (rw [if_pos (by omega)]; try go_simp)); (first | done | (fail) | (with_reducible rfl) | exact rfl)))
          simp only [Act.put, List.setIfInBounds_toArray, List.set_cons_zero, List.set_cons_succ]
          refine WT_yes 8 rfl (by kernel_rfl) (fun _ _ _ _ _ h => h) (by rfl) ?_; apply Exists.intro; refine ⟨fun w1 hb1 => ?_, ?_⟩; (focus ((skip; have hb1 := Lib.hid hb1; go_simp); (try (go_bits; try go_simp)); (try (rw [if_pos (by omega)]; try go_simp)); (first | done | (fail) | (with_reducible rfl) | exact rfl)))
          simp only [Act.put, List.setIfInBounds_toArray, List.set_cons_zero, List.set_cons_succ]
          refine WT_yes 9 rfl (by kernel_rfl) (fun _ _ _ _ _ h => h) (by rfl) ?_; apply Exists.intro; refine ⟨fun w1 hb1 => ?_, ?_⟩; (focus ((skip; have hb1 := Lib.hid hb1; go_simp); (try (go_bits; try go_simp)); (try (rw [if_pos (by omega)]; try go_simp)); (first | done | (fail) | (with_reducible rfl) | exact rfl)))
          simp only [Act.put, List.setIfInBounds_toArray, List.set_cons_zero, List.set_cons_succ]
          refine WT_yes 10 rfl (by kernel_rfl) (fun _ _ _ _ _ h => h) (by rfl) ?_; apply Exists.intro; refine ⟨fun w1 hb1 => ?_, ?_⟩; (focus (((have ku := (((T.out.mono (show w.heap.size ≤ wo.heap.size by omega)).trans hb1).cell (p := ⟨o1, q1 + (k + 1), none⟩) hb1').trans KU.out); have hb1 := Lib.hid hb1; go_simp); (try (go_bits; try go_simp)); (try (rw [if_pos (by omega)]; try go_simp)); (first | done | (fail) | (with_reducible rfl) | exact rfl)))
          simp only [Act.put, List.setIfInBounds_toArray, List.set_cons_zero, List.set_cons_succ]
          replace K7 := Lib.hid (K7.out.to T.out)
          replace K9 := Lib.hid (K9.out.to T.out)
          replace K10 := Lib.hid (K10.out.to T.out)
          replace HC := Lib.hid (HC.out.to T.out)
          replace KX := Lib.hid ((T.out.cell (p := ⟨o1, q1 + k, none⟩) (show o1 < wo.heap.size by omega)).trans KX.out)
          have hszd : wo.heap.size ≤ wd.heap.size := T.out.size
          replace HB := Lib.hid (bThen HB.out T.out)
          clear T
          refine WT_one 11 rfl (by kernel_rfl) ?_
          unfold stepT
          obtain ⟨hkx, kx, fx⟩ := K10.out
          go_wp2_with fail
          clear kx fx
          have hbd : Hid (Below w.heap.size wd ((wd.setCell ⟨B10, 0, none⟩ (.int .i64 an)).setCell ⟨B10, 1, none⟩ (.int .i64 ad))) := Lib.hid (((Below.refl _ _).setCell (p := ⟨B10, 0, none⟩) (by dsimp only; omega) _).setCell (p := ⟨B10, 1, none⟩) (by dsimp only; omega) _)
          refine ⟨hbd.out, ?_⟩
          have hne : ∀ {b o : Nat}, b < w.heap.size → ∀ j, (⟨b, o, none⟩ : Addr) ≠ ⟨B10, j, none⟩ := fun hb j e => by cases e; omega
          replace K7 := Lib.hid ((K7.out.other (p := ⟨B10, 0, none⟩) (by dsimp only; omega) (.int .i64 an)).other (p := ⟨B10, 1, none⟩) (by dsimp only; omega) (.int .i64 ad))
          replace K9 := Lib.hid ((K9.out.other (p := ⟨B10, 0, none⟩) (by dsimp only; omega) (.int .i64 an)).other (p := ⟨B10, 1, none⟩) (by dsimp only; omega) (.int .i64 ad))
          replace K10 : Hid (Blk ((wd.setCell ⟨B10, 0, none⟩ (.int .i64 an)).setCell ⟨B10, 1, none⟩ (.int .i64 ad)) B10 #[.int .i64 an, .int .i64 ad]) := Lib.hid ((K10.out.set 0 (.int .i64 an)).set 1 (.int .i64 ad))
          replace HC := Lib.hid ((HC.out.other (p := ⟨B10, 0, none⟩) (by dsimp only; omega) (.int .i64 an)).other (p := ⟨B10, 1, none⟩) (by dsimp only; omega) (.int .i64 ad))
          replace KX := Lib.hid ((hbd.out.cell (p := ⟨o1, q1 + k, none⟩) hb1').trans KX.out)
          replace HB := Lib.hid (HB.out.trans hbd.out)
          have hszw : ((wd.setCell ⟨B10, 0, none⟩ (.int .i64 an)).setCell ⟨B10, 1, none⟩ (.int .i64 ad)).heap.size = wd.heap.size := by simp [World.setCell]
          obtain ⟨wE, hwE⟩ : ∃ wE, (wd.setCell ⟨B10, 0, none⟩ (.int .i64 an)).setCell ⟨B10, 1, none⟩ (.int .i64 ad) = wE := ⟨_, rfl⟩
          rw [hwE] at K7 K9 K10 HC KX HB hszw ⊢
          clear hwE hbd hne
          refine WT_one 12 rfl (by kernel_rfl) ?_
          unfold stepT
          go_wp2_with fail
          refine ⟨Below.refl _ _, ?_⟩
          refine WT_done (by kernel_rfl) ?_
          have hsN : w.heap.size < wE.heap.size := K7.out.1
          go_upto_region 8 with (fail)
          refine wp_region_tree (by kernel_rfl) (fun wd hwd => ?_)
          have T := Lib.hid hwd
          clear hwd
          refine WT_yes 0 rfl (by kernel_rfl) (fun _ _ _ _ _ h => h) (by rfl) ?_; apply Exists.intro; refine ⟨fun w1 hb1 => ?_, ?_⟩; (focus (((obtain ⟨-, k9, -⟩ := K9.out.to (T.out.trans hb1)); have hb1 := Lib.hid hb1; go_simp); (try (go_bits; try go_simp)); (try (rw [if_pos (by omega)]; try go_simp)); (first | done | (fail) | (with_reducible rfl) | exact rfl)))
          simp only [Act.put, List.setIfInBounds_toArray, List.set_cons_zero, List.set_cons_succ]
          refine WT_yes 1 rfl (by kernel_rfl) (fun _ _ _ _ _ h => h) (by rfl) ?_; apply Exists.intro; refine ⟨fun w1 hb1 => ?_, ?_⟩; (focus (((obtain ⟨-, k7, -⟩ := K7.out.to (T.out.trans hb1)); have hb1 := Lib.hid hb1; go_simp); (try (go_bits; try go_simp)); (try (rw [if_pos (by omega)]; try go_simp)); (first | done | (fail) | (with_reducible rfl) | exact rfl)))
          simp only [Act.put, List.setIfInBounds_toArray, List.set_cons_zero, List.set_cons_succ]
          refine WT_yes 2 rfl (by kernel_rfl) (fun _ _ _ _ _ h => h) (by rfl) ?_; apply Exists.intro; refine ⟨fun w1 hb1 => ?_, ?_⟩; (focus (((obtain ⟨-, k10, -⟩ := K10.out.to (T.out.trans hb1)); have hb1 := Lib.hid hb1; go_simp); (try (go_bits; try go_simp)); (try (rw [if_pos (by omega)]; try go_simp)); (first | done | (fail) | (with_reducible rfl) | exact rfl)))
          simp only [Act.put, List.setIfInBounds_toArray, List.set_cons_zero, List.set_cons_succ]
          refine WT_yes 3 rfl (by kernel_rfl) (fun _ _ _ _ _ h => h) (by rfl) ?_; apply Exists.intro; refine ⟨fun w1 hb1 => ?_, ?_⟩; (focus ((skip; have hb1 := Lib.hid hb1; go_simp); (try (go_bits; try go_simp)); (try (rw [if_pos (by omega)]; try go_simp)); (first | done | (fail) | (with_reducible rfl) | exact rfl)))
          simp only [Act.put, List.setIfInBounds_toArray, List.set_cons_zero, List.set_cons_succ]
          refine WT_yes 4 rfl (by kernel_rfl) (fun _ _ _ _ _ h => h) (by rfl) ?_; apply Exists.intro; refine ⟨fun w1 hb1 => ?_, ?_⟩; (focus (((obtain ⟨-, kc, -⟩ := HC.out.to (T.out.trans hb1)); have hb1 := Lib.hid hb1; go_simp); (try (go_bits; try go_simp)); (try (rw [if_pos (by omega)]; try go_simp)); (first | done | (fail) | (with_reducible rfl) | exact rfl)))
          simp only [Act.put, List.setIfInBounds_toArray, List.set_cons_zero, List.set_cons_succ]
          refine WT_yes 5 rfl (by kernel_rfl) (fun _ _ _ _ _ h => h) (by rfl) ?_; apply Exists.intro; refine ⟨fun w1 hb1 => ?_, ?_⟩; (focus ((skip; have hb1 := Lib.hid hb1; go_simp); (try (go_bits; try go_simp)); (try (rw [if_pos (by omega)]; try go_simp)); (first | done | (fail) | (with_reducible rfl) | exact rfl)))
          simp only [Act.put, List.setIfInBounds_toArray, List.set_cons_zero, List.set_cons_succ]
          refine WT_yes 6 rfl (by kernel_rfl) (fun _ _ _ _ _ h => h) (by rfl) ?_; apply Exists.intro; refine ⟨fun w1 hb1 => ?_, ?_⟩; (focus ((skip; have hb1 := Lib.hid hb1; go_simp); (try (go_bits; try go_simp)); (try (rw [if_pos (by omega)]; try go_simp)); (first | done | (fail) | (with_reducible rfl) | exact rfl)))
          simp only [Act.put, List.setIfInBounds_toArray, List.set_cons_zero, List.set_cons_succ]
          refine WT_yes 7 rfl (by kernel_rfl) (fun _ _ _ _ _ h => h) (by rfl) ?_; apply Exists.intro; refine ⟨fun w1 hb1 => ?_, ?_⟩; (focus (((have kx := ((T.out.trans hb1).cell (p := ⟨o1, q1 + k, none⟩) (show o1 < wE.heap.size by omega)).trans KX.out); have hb1 := Lib.hid hb1; go_simp); (try (go_bits; try go_simp)); (try (rw [if_pos (by omega)]; try go_simp)); (first | done | (fail) | (with_reducible rfl) | exact rfl)))
          simp only [Act.put, List.setIfInBounds_toArray, List.set_cons_zero, List.set_cons_succ]
          refine WT_yes 8 rfl (by kernel_rfl) (fun _ _ _ _ _ h => h) (by rfl) ?_; apply Exists.intro; refine ⟨fun w1 hb1 => ?_, ?_⟩; (focus ((skip; have hb1 := Lib.hid hb1; go_simp); (try (go_bits; try go_simp)); (try (rw [if_pos (by omega)]; try go_simp)); (first | done | (fail) | (with_reducible rfl) | exact rfl)))
          simp only [Act.put, List.setIfInBounds_toArray, List.set_cons_zero, List.set_cons_succ]
          refine WT_yes 9 rfl (by kernel_rfl) (fun _ _ _ _ _ h => h) (by rfl) ?_; apply Exists.intro; refine ⟨fun w1 hb1 => ?_, ?_⟩; (focus ((skip; have hb1 := Lib.hid hb1; go_simp); (try (go_bits; try go_simp)); (try (rw [if_pos (by omega)]; try go_simp)); (first | done | (fail) | (with_reducible rfl) | exact rfl)))
          simp only [Act.put, List.setIfInBounds_toArray, List.set_cons_zero, List.set_cons_succ]
          refine WT_one 10 rfl (by kernel_rfl) ?_
          unfold stepT
          go_wp2_with fail
          refine (HBAL.out _).mono ?_
          rintro e wZ ⟨rfl, hb⟩
          have hbd := Lib.hid (hb.mono T.out.size)
          replace T := Lib.hid (T.out.trans hbd.out)
          clear hb
          go_wp2_with fail
          refine ⟨hbd.out, ?_⟩
          clear hbd
          refine WT_one 11 rfl (by kernel_rfl) ?_
          unfold stepT
          go_wp2_with fail
          refine (unless_any _ _ _).mono ?_
          rintro e w' ⟨rfl, rfl⟩
          go_wp2_with fail
          refine ⟨Below.refl _ _, ?_⟩
          refine WT_one 12 rfl (by kernel_rfl) ?_
          unfold stepT
          go_wp2_with fail
          refine ⟨Below.refl _ _, ?_⟩
          refine WT_done (by kernel_rfl) ?_
          go_wp2_with fail
          go_ret
          exact ⟨rfl, bThen HB.out T.out⟩
        · have eA : nbA l nd k = (0, 1) := by unfold nbA; rw [if_neg hnd, if_neg (by omega)]
          have eU : nbU ks nd k = 0 := by unfold nbU; rw [if_neg hnd, if_neg hup]
          rw [eA, eU, eF] at HBAL
          dsimp only at HBAL
          have hqu : decide ((k : Int) + 1 < (ks.length : Int)) = false := decide_eq_false (by omega)
          clear eA eU eF
          obtain ⟨-, kn, -⟩ := HBN.out
          obtain ⟨-, kl, -⟩ := HBL.out
          have hsN : w.heap.size < wo.heap.size := K7.out.1
          go_upto_region 8 with (fail)
          refine wp_region_tree (by kernel_rfl) (fun wd hwd => ?_)
          have T := Lib.hid hwd
          clear hwd
          refine WT_yes 0 rfl (by kernel_rfl) (fun _ _ _ _ _ h => h) (by rfl) ?_; apply Exists.intro; refine ⟨fun w1 hb1 => ?_, ?_⟩; (focus (((obtain ⟨-, k9, -⟩ := K9.out.to (T.out.trans hb1)); have hb1 := Lib.hid hb1; go_simp); (try (go_bits; try go_simp)); (try (rw [if_pos (by omega)]; try go_simp)); (first | done | (fail) | (with_reducible rfl) | exact rfl)))
          simp only [Act.put, List.setIfInBounds_toArray, List.set_cons_zero, List.set_cons_succ]
          refine WT_yes 1 rfl (by kernel_rfl) (fun _ _ _ _ _ h => h) (by rfl) ?_; apply Exists.intro; refine ⟨fun w1 hb1 => ?_, ?_⟩; (focus (((obtain ⟨-, k7, -⟩ := K7.out.to (T.out.trans hb1)); have hb1 := Lib.hid hb1; go_simp); (try (go_bits; try go_simp)); (try (rw [if_pos (by omega)]; try go_simp)); (first | done | (fail) | (with_reducible rfl) | exact rfl)))
          simp only [Act.put, List.setIfInBounds_toArray, List.set_cons_zero, List.set_cons_succ]
          refine WT_yes 2 rfl (by kernel_rfl) (fun _ _ _ _ _ h => h) (by rfl) ?_; apply Exists.intro; refine ⟨fun w1 hb1 => ?_, ?_⟩; (focus (((obtain ⟨-, k10, -⟩ := K10.out.to (T.out.trans hb1)); have hb1 := Lib.hid hb1; go_simp); (try (go_bits; try go_simp)); (try (rw [if_pos (by omega)]; try go_simp)); (first | done | (fail) | (with_reducible rfl) | exact rfl)))
          simp only [Act.put, List.setIfInBounds_toArray, List.set_cons_zero, List.set_cons_succ]
          refine WT_yes 3 rfl (by kernel_rfl) (fun _ _ _ _ _ h => h) (by rfl) ?_; apply Exists.intro; refine ⟨fun w1 hb1 => ?_, ?_⟩; (focus ((skip; have hb1 := Lib.hid hb1; go_simp); (try (go_bits; try go_simp)); (try (rw [if_pos (by omega)]; try go_simp)); (first | done | (fail) | (with_reducible rfl) | exact rfl)))
          simp only [Act.put, List.setIfInBounds_toArray, List.set_cons_zero, List.set_cons_succ]
          refine WT_yes 4 rfl (by kernel_rfl) (fun _ _ _ _ _ h => h) (by rfl) ?_; apply Exists.intro; refine ⟨fun w1 hb1 => ?_, ?_⟩; (focus (((obtain ⟨-, kc, -⟩ := HC.out.to (T.out.trans hb1)); have hb1 := Lib.hid hb1; go_simp); (try (go_bits; try go_simp)); (try (rw [if_pos (by omega)]; try go_simp)); (first | done | (fail) | (with_reducible rfl) | exact rfl)))
          simp only [Act.put, List.setIfInBounds_toArray, List.set_cons_zero, List.set_cons_succ]
          refine WT_yes 5 rfl (by kernel_rfl) (fun _ _ _ _ _ h => h) (by rfl) ?_; apply Exists.intro; refine ⟨fun w1 hb1 => ?_, ?_⟩; (focus ((skip; have hb1 := Lib.hid hb1; go_simp); (try (go_bits; try go_simp)); (try (rw [if_pos (by omega)]; try go_simp)); (first | done | (fail) | (with_reducible rfl) | exact rfl)))
          simp only [Act.put, List.setIfInBounds_toArray, List.set_cons_zero, List.set_cons_succ]
          refine WT_yes 6 rfl (by kernel_rfl) (fun _ _ _ _ _ h => h) (by rfl) ?_; apply Exists.intro; refine ⟨fun w1 hb1 => ?_, ?_⟩; (focus ((skip; have hb1 := Lib.hid hb1; go_simp); (try (go_bits; try go_simp)); (try (rw [if_pos (by omega)]; try go_simp)); (first | done | (fail) | (with_reducible rfl) | exact rfl)))
          simp only [Act.put, List.setIfInBounds_toArray, List.set_cons_zero, List.set_cons_succ]
          refine WT_yes 7 rfl (by kernel_rfl) (fun _ _ _ _ _ h => h) (by rfl) ?_; apply Exists.intro; refine ⟨fun w1 hb1 => ?_, ?_⟩; (focus (((have kx := ((T.out.trans hb1).cell (p := ⟨o1, q1 + k, none⟩) (show o1 < wo.heap.size by omega)).trans KX.out); have hb1 := Lib.hid hb1; go_simp); (try (go_bits; try go_simp)); (try (rw [if_pos (by omega)]; try go_simp)); (first | done | (fail) | (with_reducible rfl) | exact rfl)))
          simp only [Act.put, List.setIfInBounds_toArray, List.set_cons_zero, List.set_cons_succ]
          refine WT_yes 8 rfl (by kernel_rfl) (fun _ _ _ _ _ h => h) (by rfl) ?_; apply Exists.intro; refine ⟨fun w1 hb1 => ?_, ?_⟩; (focus ((skip; have hb1 := Lib.hid hb1; go_simp); (try (go_bits; try go_simp)); (try (rw [if_pos (by omega)]; try go_simp)); (first | done | (fail) | (with_reducible rfl) | exact rfl)))
          simp only [Act.put, List.setIfInBounds_toArray, List.set_cons_zero, List.set_cons_succ]
          refine WT_yes 9 rfl (by kernel_rfl) (fun _ _ _ _ _ h => h) (by rfl) ?_; apply Exists.intro; refine ⟨fun w1 hb1 => ?_, ?_⟩; (focus ((skip; have hb1 := Lib.hid hb1; go_simp); (try (go_bits; try go_simp)); (try (rw [if_pos (by omega)]; try go_simp)); (first | done | (fail) | (with_reducible rfl) | exact rfl)))
          simp only [Act.put, List.setIfInBounds_toArray, List.set_cons_zero, List.set_cons_succ]
          refine WT_one 10 rfl (by kernel_rfl) ?_
          unfold stepT
          go_wp2_with fail
          refine (HBAL.out _).mono ?_
          rintro e wZ ⟨rfl, hb⟩
          have hbd := Lib.hid (hb.mono T.out.size)
          replace T := Lib.hid (T.out.trans hbd.out)
          clear hb
          go_wp2_with fail
          refine ⟨hbd.out, ?_⟩
          clear hbd
          refine WT_one 11 rfl (by kernel_rfl) ?_
          unfold stepT
          go_wp2_with fail
          refine (unless_any _ _ _).mono ?_
          rintro e w' ⟨rfl, rfl⟩
          go_wp2_with fail
          refine ⟨Below.refl _ _, ?_⟩
          refine WT_one 12 rfl (by kernel_rfl) ?_
          unfold stepT
          go_wp2_with fail
          refine ⟨Below.refl _ _, ?_⟩
          refine WT_done (by kernel_rfl) ?_
          go_wp2_with fail
          go_ret
          exact ⟨rfl, bThen HB.out T.out⟩

end Go.Proofs.Ytmofgejoogikfaa

