/-
  Texts of this claim, in their build order: OM22.
-/
import Derived.Test.YtjfedpblkejmkaaGreatBot33
import Derived.Test.YtjfedpblkejmkaaGreatBot0

namespace Go.Proofs.YtjfedpblkejmkaaGreat
section
open Go.RowKit
attribute [local go_sem] Oper.semAt_some

theorem isColB_any (x y : Int) (W : World) (B : Nat) (h : Blk W B #[.int .i64 x, .int .i64 y]) :
    Calls Tryz.prog 95 #[.slice (some ⟨B, 0, none⟩) 2 2] W fun e w' => e = .returned (.bool (colB [x, y])) ∧ W = w' :=
  isCol_any [x, y] (some ⟨B, 0, none⟩) 2 W (show 2 ≤ 100000 by omega) (h.row (fun i hi => by
    match i, hi with
    | 0, _ => rfl
    | 1, _ => rfl))
theorem first5B_any (a b c d f : Int) (W : World) (B : Nat) (h : Blk W B #[.int .i64 a, .int .i64 b, .int .i64 c, .int .i64 d, .int .i64 f]) :
    Calls Tryz.prog 92 #[.slice (some ⟨B, 0, none⟩) 5 5] W fun e w' => e = .returned (.int .i64 (firstE [a, b, c, d, f])) ∧ W = w' :=
  oFirst_any [a, b, c, d, f] B 0 5 W (by simp) (fun i hi => by
    rw [h.2.1, Nat.zero_add]
    match i, hi with
    | 0, _ => rfl
    | 1, _ => rfl
    | 2, _ => rfl
    | 3, _ => rfl
    | 4, _ => rfl)
theorem colB2 {x y : Int} (h : colB [x, y] = true) : (1 ≤ x ∧ x ≤ 10000) ∧ (1 ≤ y ∧ y ≤ 10000) := by
  unfold colB at h
  simp only [List.all_cons, List.all_nil, Bool.and_true, Bool.and_eq_true, wthn_iff] at h
  exact h
theorem firstE5 {a b c d f : Int} : firstE [a, b, c, d, f] = 0 ↔ a = 0 ∧ b = 0 ∧ c = 0 ∧ d = 0 ∧ f = 0 := by
  unfold firstE
  by_cases h : a = 0
  · rw [if_pos h]
    unfold firstE
    by_cases h' : b = 0
    · rw [if_pos h']
      unfold firstE
      by_cases h'' : c = 0
      · rw [if_pos h'']
        have := firstE2 (a := d) (b := f)
        exact ⟨fun h2 => ⟨h, h', h'', this.1 h2⟩, fun h2 => this.2 h2.2.2.2⟩
      · rw [if_neg h'']
        exact ⟨fun h2 => absurd h2 h'', fun h2 => absurd h2.2.2.1 h''⟩
    · rw [if_neg h']
      exact ⟨fun h2 => absurd h2 h', fun h2 => absurd h2.2.1 h'⟩
  · rw [if_neg h]
    exact ⟨fun h2 => absurd h2 h, fun h2 => absurd h2.1 h⟩
theorem clrE_ok {x y z a b lo hi : Int} (h : clrE x y z a b lo hi = 0) : ((1 ≤ x ∧ x ≤ 10000) ∧ (1 ≤ y ∧ y ≤ 10000) ∧ (1 ≤ z ∧ z ≤ 10000)) ∧ (1 ≤ a ∧ a ≤ b ∧ b ≤ 10000) ∧ 0 ≤ lo ∧ lo ≤ hi ∧ hi ≤ 1000000000 := by
  obtain ⟨h1, h2, h3, h4, h5⟩ := firstE5.1 (show firstE [_, _, _, _, _] = 0 from h)
  rw [unlZ (by decide)] at h2 h3 h4 h5
  simp only [Bool.and_eq_true, wthn_iff, decide_eq_true_eq] at h3 h4 h5
  have := colB2 h2
  exact ⟨clmE_ok h1, by omega, by omega⟩
theorem Nin.of_q {q : Int × Int} (h : QOk q) : Nin q.1 ∧ Nin q.2 := ⟨⟨by have := h.n0; omega, by have := h.n1; omega⟩, ⟨by have := h.d0; omega, by have := h.d1; omega⟩⟩

set_option maxHeartbeats 12800000 in
set_option maxRecDepth 100000 in
theorem ClearOf_any (x y z a b lo hi : Int) (w : World) :
    Calls Tryz.prog 16 #[.agg #[.int .i64 x, .int .i64 y, .int .i64 z], .agg #[.int .i64 a, .int .i64 b], .agg #[.int .i64 lo, .int .i64 hi]] w fun e w' => e = .returned (.tuple #[.int .i64 (clrO x y z a b lo hi), .int .i64 (clrE x y z a b lo hi)]) ∧ Below w.heap.size w w' := by
  have HC := zH (fun W => clmE_any x y z W)
  have HM := zH (fun W B hB => isColB_any a b W B hB)
  have HE : Hid (firstE [clmE x y z, unl (colB [a, b]) 2, unl (decide (a ≤ b)) 9, unl (wthn lo 0 1000000000 && wthn hi 0 1000000000) 2, unl (decide (lo ≤ hi)) 9] = clrE x y z a b lo hi) := zH rfl
  have HO : Hid (clrO x y z a b lo hi = if clrE x y z a b lo hi = 0 then clrA (sqrQ x y z b) (sqrQ x y z a) lo hi else 0) := zH rfl
  have HS1 := zH (fun W (h : clrE x y z a b lo hi = 0) => sqr_any x y z b W (clrE_ok h).1 (by have := (clrE_ok h).2.1; omega))
  have HS2 := zH (fun W (h : clrE x y z a b lo hi = 0) => sqr_any x y z a W (clrE_ok h).1 (by have := (clrE_ok h).2.1; omega))
  have HQ1 := zH (fun (h : clrE x y z a b lo hi = 0) => (sqr_ok (x := x) (y := y) (z := z) (m := b) (clrE_ok h).1 (by have := (clrE_ok h).2.1; omega)))
  have HQ2 := zH (fun (h : clrE x y z a b lo hi = 0) => (sqr_ok (x := x) (y := y) (z := z) (m := a) (clrE_ok h).1 (by have := (clrE_ok h).2.1; omega)))
  have HBD := zH (fun (h : clrE x y z a b lo hi = 0) => (clrE_ok h).2.2)
  obtain ⟨ve, hve⟩ : ∃ e, clrE x y z a b lo hi = e := ⟨_, rfl⟩
  obtain ⟨vo, hvo⟩ : ∃ e, clrO x y z a b lo hi = e := ⟨_, rfl⟩
  obtain ⟨ce, hce⟩ : ∃ e, clmE x y z = e := ⟨_, rfl⟩
  obtain ⟨cb, hcb⟩ : ∃ e, colB [a, b] = e := ⟨_, rfl⟩
  obtain ⟨bl, hbl⟩ : ∃ e, wthn lo 0 1000000000 = e := ⟨_, rfl⟩
  obtain ⟨bh, hbh⟩ : ∃ e, wthn hi 0 1000000000 = e := ⟨_, rfl⟩
  have HLO := zH (fun W => clr1_any lo bl hbl W)
  have HHI := zH (fun W => clr1_any hi bh hbh W)
  obtain ⟨⟨p1, p2⟩, hp⟩ : ∃ q, sqrQ x y z b = q := ⟨_, rfl⟩
  obtain ⟨⟨q1, q2⟩, hq⟩ : ∃ q, sqrQ x y z a = q := ⟨_, rfl⟩
  rw [hve] at HE HO HS1 HS2 HQ1 HQ2 HBD ⊢
  rw [hvo] at HO ⊢
  rw [hce] at HC HE
  rw [hcb] at HM HE
  rw [hbl, hbh] at HE
  rw [hp] at HO HS1 HQ1
  rw [hq] at HO HS2 HQ2
  clear hve hvo hce hcb hbl hbh hp hq
  dsimp only at HO HS1 HS2
  go_enter Tryz.func16, Tryz.ntmps16
  go_wp2_with fail
  obtain ⟨W, hW⟩ : ∃ W, ((w.alloc (.cells #[.int .i64 x, .int .i64 y, .int .i64 z] 23)).alloc (.cells #[.int .i64 a, .int .i64 b] 25)).alloc (.cells #[.int .i64 lo, .int .i64 hi] 25) = W := ⟨_, rfl⟩
  rw [hW]
  have K3 : Hid (Blk W w.heap.size #[.int .i64 x, .int .i64 y, .int .i64 z]) := by subst hW; exact zH (((Blk.new _ _ _).alloc _).alloc _)
  have K4 : Hid (Blk W (w.heap.size + 1) #[.int .i64 a, .int .i64 b]) := by subst hW; exact zH ((Blk.newAt _ _ _ (by simp)).alloc _)
  have K5 : Hid (Blk W (w.heap.size + 1 + 1) #[.int .i64 lo, .int .i64 hi]) := by subst hW; exact zH (Blk.newAt _ _ _ (by simp))
  have HB : Hid (Below w.heap.size w W) := by subst hW; exact zH (bAlloc (bAlloc (bAlloc (bSelf w) _) _) _)
  clear hW
  go_cut [9] from 13 to 46 (fun s9 wc => s9 = .int .i64 ve ∧ Hid (Below W.heap.size W wc))
  case first =>
    cases bl
    · skip
      rw [Bool.false_and] at HE
      refine wp_region_tree (by kernel_rfl) (fun wd hwd => ?_)
      have T := zH hwd
      clear hwd
      refine WTq 0 ?_; apply Exists.intro; refine ⟨fun w1 hb1 => ?_, ?_⟩; (focus (((obtain ⟨-, k3, -⟩ := K3.out.to (T.out.trans hb1)); have hb1 := zH hb1; go_simp); (try (go_bits; try go_simp)); (try (rw [if_pos (by omega)]; try go_simp)); (first | done | (with_reducible rfl) | exact rfl)))
      simp only [Act.put, zzT, zzO, zzS]
      refine WTq 2 ?_; apply Exists.intro; refine ⟨fun w1 hb1 => ?_, ?_⟩; (focus ((have hb1 := zH hb1; go_simp); (try (go_bits; try go_simp)); (try (rw [if_pos (by omega)]; try go_simp)); (first | done | (with_reducible rfl) | exact rfl)))
      simp only [Act.put, zzT, zzO, zzS]
      refine WTq 3 ?_; apply Exists.intro; refine ⟨fun w1 hb1 => ?_, ?_⟩; (focus (((obtain ⟨-, k4, -⟩ := K4.out.to (T.out.trans hb1)); have hb1 := zH hb1; go_simp); (try (go_bits; try go_simp)); (try (rw [if_pos (by omega)]; try go_simp)); (first | done | (with_reducible rfl) | exact rfl)))
      simp only [Act.put, zzT, zzO, zzS]
      refine WTq 4 ?_; apply Exists.intro; refine ⟨fun w1 hb1 => ?_, ?_⟩; (focus ((have hb1 := zH hb1; go_simp); (try (go_bits; try go_simp)); (try (rw [if_pos (by omega)]; try go_simp)); (first | done | (with_reducible rfl) | exact rfl)))
      simp only [Act.put, zzT, zzO, zzS]
      refine WTq 5 ?_; apply Exists.intro; refine ⟨fun w1 hb1 => ?_, ?_⟩; (focus (((obtain ⟨-, k4, -⟩ := K4.out.to (T.out.trans hb1)); have hb1 := zH hb1; go_simp); (try (go_bits; try go_simp)); (try (rw [if_pos (by omega)]; try go_simp)); (first | done | (with_reducible rfl) | exact rfl)))
      simp only [Act.put, zzT, zzO, zzS]
      refine WTq 9 ?_; apply Exists.intro; refine ⟨fun w1 hb1 => ?_, ?_⟩; (focus ((have hb1 := zH hb1; go_simp); (try (go_bits; try go_simp)); (try (rw [if_pos (by omega)]; try go_simp)); (first | done | (with_reducible rfl) | exact rfl)))
      simp only [Act.put, zzT, zzO, zzS]
      refine WTq 10 ?_; apply Exists.intro; refine ⟨fun w1 hb1 => ?_, ?_⟩; (focus (((obtain ⟨-, k4, -⟩ := K4.out.to (T.out.trans hb1)); have hb1 := zH hb1; go_simp); (try (go_bits; try go_simp)); (try (rw [if_pos (by omega)]; try go_simp)); (first | done | (with_reducible rfl) | exact rfl)))
      simp only [Act.put, zzT, zzO, zzS]
      refine WTq 11 ?_; apply Exists.intro; refine ⟨fun w1 hb1 => ?_, ?_⟩; (focus ((have hb1 := zH hb1; go_simp); (try (go_bits; try go_simp)); (try (rw [if_pos (by omega)]; try go_simp)); (first | done | (with_reducible rfl) | exact rfl)))
      simp only [Act.put, zzT, zzO, zzS]
      refine WTq 12 ?_; apply Exists.intro; refine ⟨fun w1 hb1 => ?_, ?_⟩; (focus (((obtain ⟨-, k4, -⟩ := K4.out.to (T.out.trans hb1)); have hb1 := zH hb1; go_simp); (try (go_bits; try go_simp)); (try (rw [if_pos (by omega)]; try go_simp)); (first | done | (with_reducible rfl) | exact rfl)))
      simp only [Act.put, zzT, zzO, zzS]
      refine WTq 13 ?_; apply Exists.intro; refine ⟨fun w1 hb1 => ?_, ?_⟩; (focus ((have hb1 := zH hb1; go_simp); (try (go_bits; try go_simp)); (try (rw [if_pos (by omega)]; try go_simp)); (first | done | (with_reducible rfl) | exact rfl)))
      simp only [Act.put, zzT, zzO, zzS]
      refine WTq 15 ?_; apply Exists.intro; refine ⟨fun w1 hb1 => ?_, ?_⟩; (focus ((have hb1 := zH hb1; go_simp); (try (go_bits; try go_simp)); (try (rw [if_pos (by omega)]; try go_simp)); (first | done | (with_reducible rfl) | exact rfl)))
      simp only [Act.put, zzT, zzO, zzS]
      refine WTq 16 ?_; apply Exists.intro; refine ⟨fun w1 hb1 => ?_, ?_⟩; (focus ((have hb1 := zH hb1; go_simp); (try (go_bits; try go_simp)); (try (rw [if_pos (by omega)]; try go_simp)); (first | done | (with_reducible rfl) | exact rfl)))
      simp only [Act.put, zzT, zzO, zzS]
      refine WTq 17 ?_; apply Exists.intro; refine ⟨fun w1 hb1 => ?_, ?_⟩; (focus (((obtain ⟨-, k5, -⟩ := K5.out.to (T.out.trans hb1)); have hb1 := zH hb1; go_simp); (try (go_bits; try go_simp)); (try (rw [if_pos (by omega)]; try go_simp)); (first | done | (with_reducible rfl) | exact rfl)))
      simp only [Act.put, zzT, zzO, zzS]
      refine WTq 26 ?_; apply Exists.intro; refine ⟨fun w1 hb1 => ?_, ?_⟩; (focus ((have hb1 := zH hb1; go_simp); (try (go_bits; try go_simp)); (try (rw [if_pos (by omega)]; try go_simp)); (first | done | (with_reducible rfl) | exact rfl)))
      simp only [Act.put, zzT, zzO, zzS]
      refine WTq 27 ?_; apply Exists.intro; refine ⟨fun w1 hb1 => ?_, ?_⟩; (focus (((obtain ⟨-, k5, -⟩ := K5.out.to (T.out.trans hb1)); have hb1 := zH hb1; go_simp); (try (go_bits; try go_simp)); (try (rw [if_pos (by omega)]; try go_simp)); (first | done | (with_reducible rfl) | exact rfl)))
      simp only [Act.put, zzT, zzO, zzS]
      refine WTq 28 ?_; apply Exists.intro; refine ⟨fun w1 hb1 => ?_, ?_⟩; (focus ((have hb1 := zH hb1; go_simp); (try (go_bits; try go_simp)); (try (rw [if_pos (by omega)]; try go_simp)); (first | done | (with_reducible rfl) | exact rfl)))
      simp only [Act.put, zzT, zzO, zzS]
      refine WTq 29 ?_; apply Exists.intro; refine ⟨fun w1 hb1 => ?_, ?_⟩; (focus (((obtain ⟨-, k5, -⟩ := K5.out.to (T.out.trans hb1)); have hb1 := zH hb1; go_simp); (try (go_bits; try go_simp)); (try (rw [if_pos (by omega)]; try go_simp)); (first | done | (with_reducible rfl) | exact rfl)))
      simp only [Act.put, zzT, zzO, zzS]
      refine WTq 30 ?_; apply Exists.intro; refine ⟨fun w1 hb1 => ?_, ?_⟩; (focus ((have hb1 := zH hb1; go_simp); (try (go_bits; try go_simp)); (try (rw [if_pos (by omega)]; try go_simp)); (first | done | (with_reducible rfl) | exact rfl)))
      simp only [Act.put, zzT, zzO, zzS]
      refine WT_two 1 6 rfl rfl (by kernel_rfl) ?_ ?_
      · unfold stepT
        go_wp2_with fail
        refine (HC.out _).mono ?_
        rintro e u1 ⟨rfl, hb⟩
        have hbd := zH (hb.mono T.out.size)
        replace T := zH (bThen T.out hb)
        clear hb
        go_wp2_with fail
        refine ⟨hbd.out, ?_⟩
        clear hbd
        refine WT_one 6 rfl (by kernel_rfl) ?_
        unfold stepT
        go_wp2_with fail
        obtain ⟨u2, hwA⟩ : ∃ wA, u1.alloc (.cells #[.int .i64 a, .int .i64 b] 3) = wA := ⟨_, rfl⟩
        rw [hwA]
        have hb : Below u1.heap.size u1 u2 := by subst hwA; exact bAlloc (bSelf _) _
        have KS : Hid (Blk u2 u1.heap.size #[.int .i64 a, .int .i64 b]) := by subst hwA; exact Blk.new _ _ _
        clear hwA
        have hbd := zH (hb.mono T.out.size)
        replace T := zH (bThen T.out hb)
        refine ⟨hbd.out, ?_⟩
        clear hbd hb
        refine WT_one 7 rfl (by kernel_rfl) ?_
        unfold stepT
        go_wp2_with (go_at_call 95; refine (HM.out _ _ KS.out).mono ?_; rintro e w' ⟨rfl, rfl⟩)
        refine ⟨Below.refl _ _, ?_⟩
        refine WT_one 8 rfl (by kernel_rfl) ?_
        unfold stepT
        go_wp2_with (first | (go_at_call 94; refine (oUnless_any _ _ _).mono ?_; rintro e w' ⟨rfl, rfl⟩) | (go_at_call 98; refine (HLO.out _).mono ?_; rintro e w' ⟨rfl, rfl⟩) | (go_at_call 98; refine (HHI.out _).mono ?_; rintro e w' ⟨rfl, rfl⟩))
        refine ⟨Below.refl _ _, ?_⟩
        refine WT_one 14 rfl (by kernel_rfl) ?_
        unfold stepT
        go_wp2_with (first | (go_at_call 94; refine (oUnless_any _ _ _).mono ?_; rintro e w' ⟨rfl, rfl⟩) | (go_at_call 98; refine (HLO.out _).mono ?_; rintro e w' ⟨rfl, rfl⟩) | (go_at_call 98; refine (HHI.out _).mono ?_; rintro e w' ⟨rfl, rfl⟩))
        refine ⟨Below.refl _ _, ?_⟩
        refine WT_one 18 rfl (by kernel_rfl) ?_
        unfold stepT
        go_wp2_with (first | (go_at_call 94; refine (oUnless_any _ _ _).mono ?_; rintro e w' ⟨rfl, rfl⟩) | (go_at_call 98; refine (HLO.out _).mono ?_; rintro e w' ⟨rfl, rfl⟩) | (go_at_call 98; refine (HHI.out _).mono ?_; rintro e w' ⟨rfl, rfl⟩))
        refine ⟨Below.refl _ _, ?_⟩
        refine WT_one 19 rfl (by kernel_rfl) ?_
        unfold stepT
        go_wp2_with (first | (go_at_call 94; refine (oUnless_any _ _ _).mono ?_; rintro e w' ⟨rfl, rfl⟩) | (go_at_call 98; refine (HLO.out _).mono ?_; rintro e w' ⟨rfl, rfl⟩) | (go_at_call 98; refine (HHI.out _).mono ?_; rintro e w' ⟨rfl, rfl⟩))
        refine ⟨Below.refl _ _, ?_⟩
        refine WT_no 20 rfl (by kernel_rfl) (fun _ _ _ _ _ h => h) (by rfl) ?_
        simp only [Act.put, zzT, zzO, zzS]
        refine WT_no 21 rfl (by kernel_rfl) (fun _ _ _ _ _ h => h) (by rfl) ?_
        simp only [Act.put, zzT, zzO, zzS]
        refine WT_no 22 rfl (by kernel_rfl) (fun _ _ _ _ _ h => h) (by rfl) ?_
        simp only [Act.put, zzT, zzO, zzS]
        refine WT_no 23 rfl (by kernel_rfl) (fun _ _ _ _ _ h => h) (by rfl) ?_
        simp only [Act.put, zzT, zzO, zzS]
        refine WT_one 24 rfl (by kernel_rfl) ?_
        unfold stepT
        go_wp2_with (first | (go_at_call 94; refine (oUnless_any _ _ _).mono ?_; rintro e w' ⟨rfl, rfl⟩) | (go_at_call 98; refine (HLO.out _).mono ?_; rintro e w' ⟨rfl, rfl⟩) | (go_at_call 98; refine (HHI.out _).mono ?_; rintro e w' ⟨rfl, rfl⟩))
        refine ⟨Below.refl _ _, ?_⟩
        refine WT_one 25 rfl (by kernel_rfl) ?_
        unfold stepT
        go_wp2_with (first | (go_at_call 94; refine (oUnless_any _ _ _).mono ?_; rintro e w' ⟨rfl, rfl⟩) | (go_at_call 98; refine (HLO.out _).mono ?_; rintro e w' ⟨rfl, rfl⟩) | (go_at_call 98; refine (HHI.out _).mono ?_; rintro e w' ⟨rfl, rfl⟩))
        refine ⟨Below.refl _ _, ?_⟩
        refine WT_one 31 rfl (by kernel_rfl) ?_
        unfold stepT
        go_wp2_with (first | (go_at_call 94; refine (oUnless_any _ _ _).mono ?_; rintro e w' ⟨rfl, rfl⟩) | (go_at_call 98; refine (HLO.out _).mono ?_; rintro e w' ⟨rfl, rfl⟩) | (go_at_call 98; refine (HHI.out _).mono ?_; rintro e w' ⟨rfl, rfl⟩))
        refine ⟨Below.refl _ _, ?_⟩
        refine WT_one 32 rfl (by kernel_rfl) ?_
        unfold stepT
        go_wp2_with fail
        obtain ⟨u3, hwA⟩ : ∃ wA, u2.alloc (.cells #[.int .i64 ce, .int .i64 (unl cb 2), .int .i64 (unl (decide (a ≤ b)) 9), .int .i64 (unl (false) 2), .int .i64 (unl (decide (lo ≤ hi)) 9)] 29) = wA := ⟨_, rfl⟩
        rw [hwA]
        have hb : Below u2.heap.size u2 u3 := by subst hwA; exact bAlloc (bSelf _) _
        have KF : Hid (Blk u3 u2.heap.size #[.int .i64 ce, .int .i64 (unl cb 2), .int .i64 (unl (decide (a ≤ b)) 9), .int .i64 (unl (false) 2), .int .i64 (unl (decide (lo ≤ hi)) 9)]) := by subst hwA; exact Blk.new _ _ _
        clear hwA
        have hbd := zH (hb.mono T.out.size)
        replace T := zH (bThen T.out hb)
        refine ⟨hbd.out, ?_⟩
        clear hbd hb
        refine WT_one 33 rfl (by kernel_rfl) ?_
        unfold stepT
        go_wp2_with (go_at_call 92; refine (first5B_any _ _ _ _ _ _ _ KF.out).mono ?_; rintro e w' ⟨rfl, rfl⟩; rw [HE.out])
        refine ⟨Below.refl _ _, ?_⟩
        refine WT_one 34 rfl (by kernel_rfl) ?_
        unfold stepT
        go_wp2_with (first | (go_at_call 94; refine (oUnless_any _ _ _).mono ?_; rintro e w' ⟨rfl, rfl⟩) | (go_at_call 98; refine (HLO.out _).mono ?_; rintro e w' ⟨rfl, rfl⟩) | (go_at_call 98; refine (HHI.out _).mono ?_; rintro e w' ⟨rfl, rfl⟩))
        refine ⟨Below.refl _ _, ?_⟩
        refine WT_done (by kernel_rfl) ?_
        go_wp2_with fail
        go_meet
        case rel => exact ⟨rfl, zH T.out⟩
      · unfold stepT
        go_wp2_with fail
        obtain ⟨u1, hwA⟩ : ∃ wA, wd.alloc (.cells #[.int .i64 a, .int .i64 b] 3) = wA := ⟨_, rfl⟩
        rw [hwA]
        have hb : Below wd.heap.size wd u1 := by subst hwA; exact bAlloc (bSelf _) _
        have KS : Hid (Blk u1 wd.heap.size #[.int .i64 a, .int .i64 b]) := by subst hwA; exact Blk.new _ _ _
        clear hwA
        have hbd := zH (hb.mono T.out.size)
        replace T := zH (bThen T.out hb)
        refine ⟨hbd.out, ?_⟩
        clear hbd hb
        refine WT_one 1 rfl (by kernel_rfl) ?_
        unfold stepT
        go_wp2_with fail
        refine (HC.out _).mono ?_
        rintro e u2 ⟨rfl, hb⟩
        have hbd := zH (hb.mono T.out.size)
        replace T := zH (bThen T.out hb)
        replace KS := zH (KS.out.to hb)
        clear hb
        go_wp2_with fail
        refine ⟨hbd.out, ?_⟩
        clear hbd
        refine WT_one 7 rfl (by kernel_rfl) ?_
        unfold stepT
        go_wp2_with (go_at_call 95; refine (HM.out _ _ KS.out).mono ?_; rintro e w' ⟨rfl, rfl⟩)
        refine ⟨Below.refl _ _, ?_⟩
        refine WT_one 8 rfl (by kernel_rfl) ?_
        unfold stepT
        go_wp2_with (first | (go_at_call 94; refine (oUnless_any _ _ _).mono ?_; rintro e w' ⟨rfl, rfl⟩) | (go_at_call 98; refine (HLO.out _).mono ?_; rintro e w' ⟨rfl, rfl⟩) | (go_at_call 98; refine (HHI.out _).mono ?_; rintro e w' ⟨rfl, rfl⟩))
        refine ⟨Below.refl _ _, ?_⟩
        refine WT_one 14 rfl (by kernel_rfl) ?_
        unfold stepT
        go_wp2_with (first | (go_at_call 94; refine (oUnless_any _ _ _).mono ?_; rintro e w' ⟨rfl, rfl⟩) | (go_at_call 98; refine (HLO.out _).mono ?_; rintro e w' ⟨rfl, rfl⟩) | (go_at_call 98; refine (HHI.out _).mono ?_; rintro e w' ⟨rfl, rfl⟩))
        refine ⟨Below.refl _ _, ?_⟩
        refine WT_one 18 rfl (by kernel_rfl) ?_
        unfold stepT
        go_wp2_with (first | (go_at_call 94; refine (oUnless_any _ _ _).mono ?_; rintro e w' ⟨rfl, rfl⟩) | (go_at_call 98; refine (HLO.out _).mono ?_; rintro e w' ⟨rfl, rfl⟩) | (go_at_call 98; refine (HHI.out _).mono ?_; rintro e w' ⟨rfl, rfl⟩))
        refine ⟨Below.refl _ _, ?_⟩
        refine WT_one 19 rfl (by kernel_rfl) ?_
        unfold stepT
        go_wp2_with (first | (go_at_call 94; refine (oUnless_any _ _ _).mono ?_; rintro e w' ⟨rfl, rfl⟩) | (go_at_call 98; refine (HLO.out _).mono ?_; rintro e w' ⟨rfl, rfl⟩) | (go_at_call 98; refine (HHI.out _).mono ?_; rintro e w' ⟨rfl, rfl⟩))
        refine ⟨Below.refl _ _, ?_⟩
        refine WT_no 20 rfl (by kernel_rfl) (fun _ _ _ _ _ h => h) (by rfl) ?_
        simp only [Act.put, zzT, zzO, zzS]
        refine WT_no 21 rfl (by kernel_rfl) (fun _ _ _ _ _ h => h) (by rfl) ?_
        simp only [Act.put, zzT, zzO, zzS]
        refine WT_no 22 rfl (by kernel_rfl) (fun _ _ _ _ _ h => h) (by rfl) ?_
        simp only [Act.put, zzT, zzO, zzS]
        refine WT_no 23 rfl (by kernel_rfl) (fun _ _ _ _ _ h => h) (by rfl) ?_
        simp only [Act.put, zzT, zzO, zzS]
        refine WT_one 24 rfl (by kernel_rfl) ?_
        unfold stepT
        go_wp2_with (first | (go_at_call 94; refine (oUnless_any _ _ _).mono ?_; rintro e w' ⟨rfl, rfl⟩) | (go_at_call 98; refine (HLO.out _).mono ?_; rintro e w' ⟨rfl, rfl⟩) | (go_at_call 98; refine (HHI.out _).mono ?_; rintro e w' ⟨rfl, rfl⟩))
        refine ⟨Below.refl _ _, ?_⟩
        refine WT_one 25 rfl (by kernel_rfl) ?_
        unfold stepT
        go_wp2_with (first | (go_at_call 94; refine (oUnless_any _ _ _).mono ?_; rintro e w' ⟨rfl, rfl⟩) | (go_at_call 98; refine (HLO.out _).mono ?_; rintro e w' ⟨rfl, rfl⟩) | (go_at_call 98; refine (HHI.out _).mono ?_; rintro e w' ⟨rfl, rfl⟩))
        refine ⟨Below.refl _ _, ?_⟩
        refine WT_one 31 rfl (by kernel_rfl) ?_
        unfold stepT
        go_wp2_with (first | (go_at_call 94; refine (oUnless_any _ _ _).mono ?_; rintro e w' ⟨rfl, rfl⟩) | (go_at_call 98; refine (HLO.out _).mono ?_; rintro e w' ⟨rfl, rfl⟩) | (go_at_call 98; refine (HHI.out _).mono ?_; rintro e w' ⟨rfl, rfl⟩))
        refine ⟨Below.refl _ _, ?_⟩
        refine WT_one 32 rfl (by kernel_rfl) ?_
        unfold stepT
        go_wp2_with fail
        obtain ⟨u3, hwA⟩ : ∃ wA, u2.alloc (.cells #[.int .i64 ce, .int .i64 (unl cb 2), .int .i64 (unl (decide (a ≤ b)) 9), .int .i64 (unl (false) 2), .int .i64 (unl (decide (lo ≤ hi)) 9)] 29) = wA := ⟨_, rfl⟩
        rw [hwA]
        have hb : Below u2.heap.size u2 u3 := by subst hwA; exact bAlloc (bSelf _) _
        have KF : Hid (Blk u3 u2.heap.size #[.int .i64 ce, .int .i64 (unl cb 2), .int .i64 (unl (decide (a ≤ b)) 9), .int .i64 (unl (false) 2), .int .i64 (unl (decide (lo ≤ hi)) 9)]) := by subst hwA; exact Blk.new _ _ _
        clear hwA
        have hbd := zH (hb.mono T.out.size)
        replace T := zH (bThen T.out hb)
        refine ⟨hbd.out, ?_⟩
        clear hbd hb
        refine WT_one 33 rfl (by kernel_rfl) ?_
        unfold stepT
        go_wp2_with (go_at_call 92; refine (first5B_any _ _ _ _ _ _ _ KF.out).mono ?_; rintro e w' ⟨rfl, rfl⟩; rw [HE.out])
        refine ⟨Below.refl _ _, ?_⟩
        refine WT_one 34 rfl (by kernel_rfl) ?_
        unfold stepT
        go_wp2_with (first | (go_at_call 94; refine (oUnless_any _ _ _).mono ?_; rintro e w' ⟨rfl, rfl⟩) | (go_at_call 98; refine (HLO.out _).mono ?_; rintro e w' ⟨rfl, rfl⟩) | (go_at_call 98; refine (HHI.out _).mono ?_; rintro e w' ⟨rfl, rfl⟩))
        refine ⟨Below.refl _ _, ?_⟩
        refine WT_done (by kernel_rfl) ?_
        go_wp2_with fail
        go_meet
        case rel => exact ⟨rfl, zH T.out⟩
    · skip
      rw [Bool.true_and] at HE
      refine wp_region_tree (by kernel_rfl) (fun wd hwd => ?_)
      have T := zH hwd
      clear hwd
      refine WTq 0 ?_; apply Exists.intro; refine ⟨fun w1 hb1 => ?_, ?_⟩; (focus (((obtain ⟨-, k3, -⟩ := K3.out.to (T.out.trans hb1)); have hb1 := zH hb1; go_simp); (try (go_bits; try go_simp)); (try (rw [if_pos (by omega)]; try go_simp)); (first | done | (with_reducible rfl) | exact rfl)))
      simp only [Act.put, zzT, zzO, zzS]
      refine WTq 2 ?_; apply Exists.intro; refine ⟨fun w1 hb1 => ?_, ?_⟩; (focus ((have hb1 := zH hb1; go_simp); (try (go_bits; try go_simp)); (try (rw [if_pos (by omega)]; try go_simp)); (first | done | (with_reducible rfl) | exact rfl)))
      simp only [Act.put, zzT, zzO, zzS]
      refine WTq 3 ?_; apply Exists.intro; refine ⟨fun w1 hb1 => ?_, ?_⟩; (focus (((obtain ⟨-, k4, -⟩ := K4.out.to (T.out.trans hb1)); have hb1 := zH hb1; go_simp); (try (go_bits; try go_simp)); (try (rw [if_pos (by omega)]; try go_simp)); (first | done | (with_reducible rfl) | exact rfl)))
      simp only [Act.put, zzT, zzO, zzS]
      refine WTq 4 ?_; apply Exists.intro; refine ⟨fun w1 hb1 => ?_, ?_⟩; (focus ((have hb1 := zH hb1; go_simp); (try (go_bits; try go_simp)); (try (rw [if_pos (by omega)]; try go_simp)); (first | done | (with_reducible rfl) | exact rfl)))
      simp only [Act.put, zzT, zzO, zzS]
      refine WTq 5 ?_; apply Exists.intro; refine ⟨fun w1 hb1 => ?_, ?_⟩; (focus (((obtain ⟨-, k4, -⟩ := K4.out.to (T.out.trans hb1)); have hb1 := zH hb1; go_simp); (try (go_bits; try go_simp)); (try (rw [if_pos (by omega)]; try go_simp)); (first | done | (with_reducible rfl) | exact rfl)))
      simp only [Act.put, zzT, zzO, zzS]
      refine WTq 9 ?_; apply Exists.intro; refine ⟨fun w1 hb1 => ?_, ?_⟩; (focus ((have hb1 := zH hb1; go_simp); (try (go_bits; try go_simp)); (try (rw [if_pos (by omega)]; try go_simp)); (first | done | (with_reducible rfl) | exact rfl)))
      simp only [Act.put, zzT, zzO, zzS]
      refine WTq 10 ?_; apply Exists.intro; refine ⟨fun w1 hb1 => ?_, ?_⟩; (focus (((obtain ⟨-, k4, -⟩ := K4.out.to (T.out.trans hb1)); have hb1 := zH hb1; go_simp); (try (go_bits; try go_simp)); (try (rw [if_pos (by omega)]; try go_simp)); (first | done | (with_reducible rfl) | exact rfl)))
      simp only [Act.put, zzT, zzO, zzS]
      refine WTq 11 ?_; apply Exists.intro; refine ⟨fun w1 hb1 => ?_, ?_⟩; (focus ((have hb1 := zH hb1; go_simp); (try (go_bits; try go_simp)); (try (rw [if_pos (by omega)]; try go_simp)); (first | done | (with_reducible rfl) | exact rfl)))
      simp only [Act.put, zzT, zzO, zzS]
      refine WTq 12 ?_; apply Exists.intro; refine ⟨fun w1 hb1 => ?_, ?_⟩; (focus (((obtain ⟨-, k4, -⟩ := K4.out.to (T.out.trans hb1)); have hb1 := zH hb1; go_simp); (try (go_bits; try go_simp)); (try (rw [if_pos (by omega)]; try go_simp)); (first | done | (with_reducible rfl) | exact rfl)))
      simp only [Act.put, zzT, zzO, zzS]
      refine WTq 13 ?_; apply Exists.intro; refine ⟨fun w1 hb1 => ?_, ?_⟩; (focus ((have hb1 := zH hb1; go_simp); (try (go_bits; try go_simp)); (try (rw [if_pos (by omega)]; try go_simp)); (first | done | (with_reducible rfl) | exact rfl)))
      simp only [Act.put, zzT, zzO, zzS]
      refine WTq 15 ?_; apply Exists.intro; refine ⟨fun w1 hb1 => ?_, ?_⟩; (focus ((have hb1 := zH hb1; go_simp); (try (go_bits; try go_simp)); (try (rw [if_pos (by omega)]; try go_simp)); (first | done | (with_reducible rfl) | exact rfl)))
      simp only [Act.put, zzT, zzO, zzS]
      refine WTq 16 ?_; apply Exists.intro; refine ⟨fun w1 hb1 => ?_, ?_⟩; (focus ((have hb1 := zH hb1; go_simp); (try (go_bits; try go_simp)); (try (rw [if_pos (by omega)]; try go_simp)); (first | done | (with_reducible rfl) | exact rfl)))
      simp only [Act.put, zzT, zzO, zzS]
      refine WTq 17 ?_; apply Exists.intro; refine ⟨fun w1 hb1 => ?_, ?_⟩; (focus (((obtain ⟨-, k5, -⟩ := K5.out.to (T.out.trans hb1)); have hb1 := zH hb1; go_simp); (try (go_bits; try go_simp)); (try (rw [if_pos (by omega)]; try go_simp)); (first | done | (with_reducible rfl) | exact rfl)))
      simp only [Act.put, zzT, zzO, zzS]
      refine WTq 26 ?_; apply Exists.intro; refine ⟨fun w1 hb1 => ?_, ?_⟩; (focus ((have hb1 := zH hb1; go_simp); (try (go_bits; try go_simp)); (try (rw [if_pos (by omega)]; try go_simp)); (first | done | (with_reducible rfl) | exact rfl)))
      simp only [Act.put, zzT, zzO, zzS]
      refine WTq 27 ?_; apply Exists.intro; refine ⟨fun w1 hb1 => ?_, ?_⟩; (focus (((obtain ⟨-, k5, -⟩ := K5.out.to (T.out.trans hb1)); have hb1 := zH hb1; go_simp); (try (go_bits; try go_simp)); (try (rw [if_pos (by omega)]; try go_simp)); (first | done | (with_reducible rfl) | exact rfl)))
      simp only [Act.put, zzT, zzO, zzS]
      refine WTq 28 ?_; apply Exists.intro; refine ⟨fun w1 hb1 => ?_, ?_⟩; (focus ((have hb1 := zH hb1; go_simp); (try (go_bits; try go_simp)); (try (rw [if_pos (by omega)]; try go_simp)); (first | done | (with_reducible rfl) | exact rfl)))
      simp only [Act.put, zzT, zzO, zzS]
      refine WTq 29 ?_; apply Exists.intro; refine ⟨fun w1 hb1 => ?_, ?_⟩; (focus (((obtain ⟨-, k5, -⟩ := K5.out.to (T.out.trans hb1)); have hb1 := zH hb1; go_simp); (try (go_bits; try go_simp)); (try (rw [if_pos (by omega)]; try go_simp)); (first | done | (with_reducible rfl) | exact rfl)))
      simp only [Act.put, zzT, zzO, zzS]
      refine WTq 30 ?_; apply Exists.intro; refine ⟨fun w1 hb1 => ?_, ?_⟩; (focus ((have hb1 := zH hb1; go_simp); (try (go_bits; try go_simp)); (try (rw [if_pos (by omega)]; try go_simp)); (first | done | (with_reducible rfl) | exact rfl)))
      simp only [Act.put, zzT, zzO, zzS]
      refine WT_two 1 6 rfl rfl (by kernel_rfl) ?_ ?_
      · unfold stepT
        go_wp2_with fail
        refine (HC.out _).mono ?_
        rintro e u1 ⟨rfl, hb⟩
        have hbd := zH (hb.mono T.out.size)
        replace T := zH (bThen T.out hb)
        clear hb
        go_wp2_with fail
        refine ⟨hbd.out, ?_⟩
        clear hbd
        refine WT_one 6 rfl (by kernel_rfl) ?_
        unfold stepT
        go_wp2_with fail
        obtain ⟨u2, hwA⟩ : ∃ wA, u1.alloc (.cells #[.int .i64 a, .int .i64 b] 3) = wA := ⟨_, rfl⟩
        rw [hwA]
        have hb : Below u1.heap.size u1 u2 := by subst hwA; exact bAlloc (bSelf _) _
        have KS : Hid (Blk u2 u1.heap.size #[.int .i64 a, .int .i64 b]) := by subst hwA; exact Blk.new _ _ _
        clear hwA
        have hbd := zH (hb.mono T.out.size)
        replace T := zH (bThen T.out hb)
        refine ⟨hbd.out, ?_⟩
        clear hbd hb
        refine WT_one 7 rfl (by kernel_rfl) ?_
        unfold stepT
        go_wp2_with (go_at_call 95; refine (HM.out _ _ KS.out).mono ?_; rintro e w' ⟨rfl, rfl⟩)
        refine ⟨Below.refl _ _, ?_⟩
        refine WT_one 8 rfl (by kernel_rfl) ?_
        unfold stepT
        go_wp2_with (first | (go_at_call 94; refine (oUnless_any _ _ _).mono ?_; rintro e w' ⟨rfl, rfl⟩) | (go_at_call 98; refine (HLO.out _).mono ?_; rintro e w' ⟨rfl, rfl⟩) | (go_at_call 98; refine (HHI.out _).mono ?_; rintro e w' ⟨rfl, rfl⟩))
        refine ⟨Below.refl _ _, ?_⟩
        refine WT_one 14 rfl (by kernel_rfl) ?_
        unfold stepT
        go_wp2_with (first | (go_at_call 94; refine (oUnless_any _ _ _).mono ?_; rintro e w' ⟨rfl, rfl⟩) | (go_at_call 98; refine (HLO.out _).mono ?_; rintro e w' ⟨rfl, rfl⟩) | (go_at_call 98; refine (HHI.out _).mono ?_; rintro e w' ⟨rfl, rfl⟩))
        refine ⟨Below.refl _ _, ?_⟩
        refine WT_one 18 rfl (by kernel_rfl) ?_
        unfold stepT
        go_wp2_with (first | (go_at_call 94; refine (oUnless_any _ _ _).mono ?_; rintro e w' ⟨rfl, rfl⟩) | (go_at_call 98; refine (HLO.out _).mono ?_; rintro e w' ⟨rfl, rfl⟩) | (go_at_call 98; refine (HHI.out _).mono ?_; rintro e w' ⟨rfl, rfl⟩))
        refine ⟨Below.refl _ _, ?_⟩
        refine WT_one 19 rfl (by kernel_rfl) ?_
        unfold stepT
        go_wp2_with (first | (go_at_call 94; refine (oUnless_any _ _ _).mono ?_; rintro e w' ⟨rfl, rfl⟩) | (go_at_call 98; refine (HLO.out _).mono ?_; rintro e w' ⟨rfl, rfl⟩) | (go_at_call 98; refine (HHI.out _).mono ?_; rintro e w' ⟨rfl, rfl⟩))
        refine ⟨Below.refl _ _, ?_⟩
        refine WTq 20 ?_; apply Exists.intro; refine ⟨fun w1 hb1 => ?_, ?_⟩; (focus ((have hb1 := zH hb1; go_simp); (try (go_bits; try go_simp)); (try (rw [if_pos (by omega)]; try go_simp)); (first | done | (with_reducible rfl) | exact rfl)))
        simp only [Act.put, zzT, zzO, zzS]
        refine WTq 21 ?_; apply Exists.intro; refine ⟨fun w1 hb1 => ?_, ?_⟩; (focus ((have hb1 := zH hb1; go_simp); (try (go_bits; try go_simp)); (try (rw [if_pos (by omega)]; try go_simp)); (first | done | (with_reducible rfl) | exact rfl)))
        simp only [Act.put, zzT, zzO, zzS]
        refine WTq 22 ?_; apply Exists.intro; refine ⟨fun w1 hb1 => ?_, ?_⟩; (focus (((obtain ⟨-, k5, -⟩ := K5.out.to (T.out.trans hb1)); have hb1 := zH hb1; go_simp); (try (go_bits; try go_simp)); (try (rw [if_pos (by omega)]; try go_simp)); (first | done | (with_reducible rfl) | exact rfl)))
        simp only [Act.put, zzT, zzO, zzS]
        refine WT_one 23 rfl (by kernel_rfl) ?_
        unfold stepT
        go_wp2_with (first | (go_at_call 94; refine (oUnless_any _ _ _).mono ?_; rintro e w' ⟨rfl, rfl⟩) | (go_at_call 98; refine (HLO.out _).mono ?_; rintro e w' ⟨rfl, rfl⟩) | (go_at_call 98; refine (HHI.out _).mono ?_; rintro e w' ⟨rfl, rfl⟩))
        refine ⟨Below.refl _ _, ?_⟩
        refine WT_one 24 rfl (by kernel_rfl) ?_
        unfold stepT
        go_wp2_with (first | (go_at_call 94; refine (oUnless_any _ _ _).mono ?_; rintro e w' ⟨rfl, rfl⟩) | (go_at_call 98; refine (HLO.out _).mono ?_; rintro e w' ⟨rfl, rfl⟩) | (go_at_call 98; refine (HHI.out _).mono ?_; rintro e w' ⟨rfl, rfl⟩))
        refine ⟨Below.refl _ _, ?_⟩
        refine WT_one 25 rfl (by kernel_rfl) ?_
        unfold stepT
        go_wp2_with (first | (go_at_call 94; refine (oUnless_any _ _ _).mono ?_; rintro e w' ⟨rfl, rfl⟩) | (go_at_call 98; refine (HLO.out _).mono ?_; rintro e w' ⟨rfl, rfl⟩) | (go_at_call 98; refine (HHI.out _).mono ?_; rintro e w' ⟨rfl, rfl⟩))
        refine ⟨Below.refl _ _, ?_⟩
        refine WT_one 31 rfl (by kernel_rfl) ?_
        unfold stepT
        go_wp2_with (first | (go_at_call 94; refine (oUnless_any _ _ _).mono ?_; rintro e w' ⟨rfl, rfl⟩) | (go_at_call 98; refine (HLO.out _).mono ?_; rintro e w' ⟨rfl, rfl⟩) | (go_at_call 98; refine (HHI.out _).mono ?_; rintro e w' ⟨rfl, rfl⟩))
        refine ⟨Below.refl _ _, ?_⟩
        refine WT_one 32 rfl (by kernel_rfl) ?_
        unfold stepT
        go_wp2_with fail
        obtain ⟨u3, hwA⟩ : ∃ wA, u2.alloc (.cells #[.int .i64 ce, .int .i64 (unl cb 2), .int .i64 (unl (decide (a ≤ b)) 9), .int .i64 (unl (bh) 2), .int .i64 (unl (decide (lo ≤ hi)) 9)] 29) = wA := ⟨_, rfl⟩
        rw [hwA]
        have hb : Below u2.heap.size u2 u3 := by subst hwA; exact bAlloc (bSelf _) _
        have KF : Hid (Blk u3 u2.heap.size #[.int .i64 ce, .int .i64 (unl cb 2), .int .i64 (unl (decide (a ≤ b)) 9), .int .i64 (unl (bh) 2), .int .i64 (unl (decide (lo ≤ hi)) 9)]) := by subst hwA; exact Blk.new _ _ _
        clear hwA
        have hbd := zH (hb.mono T.out.size)
        replace T := zH (bThen T.out hb)
        refine ⟨hbd.out, ?_⟩
        clear hbd hb
        refine WT_one 33 rfl (by kernel_rfl) ?_
        unfold stepT
        go_wp2_with (go_at_call 92; refine (first5B_any _ _ _ _ _ _ _ KF.out).mono ?_; rintro e w' ⟨rfl, rfl⟩; rw [HE.out])
        refine ⟨Below.refl _ _, ?_⟩
        refine WT_one 34 rfl (by kernel_rfl) ?_
        unfold stepT
        go_wp2_with (first | (go_at_call 94; refine (oUnless_any _ _ _).mono ?_; rintro e w' ⟨rfl, rfl⟩) | (go_at_call 98; refine (HLO.out _).mono ?_; rintro e w' ⟨rfl, rfl⟩) | (go_at_call 98; refine (HHI.out _).mono ?_; rintro e w' ⟨rfl, rfl⟩))
        refine ⟨Below.refl _ _, ?_⟩
        refine WT_done (by kernel_rfl) ?_
        go_wp2_with fail
        go_meet
        case rel => exact ⟨rfl, zH T.out⟩
      · unfold stepT
        go_wp2_with fail
        obtain ⟨u1, hwA⟩ : ∃ wA, wd.alloc (.cells #[.int .i64 a, .int .i64 b] 3) = wA := ⟨_, rfl⟩
        rw [hwA]
        have hb : Below wd.heap.size wd u1 := by subst hwA; exact bAlloc (bSelf _) _
        have KS : Hid (Blk u1 wd.heap.size #[.int .i64 a, .int .i64 b]) := by subst hwA; exact Blk.new _ _ _
        clear hwA
        have hbd := zH (hb.mono T.out.size)
        replace T := zH (bThen T.out hb)
        refine ⟨hbd.out, ?_⟩
        clear hbd hb
        refine WT_one 1 rfl (by kernel_rfl) ?_
        unfold stepT
        go_wp2_with fail
        refine (HC.out _).mono ?_
        rintro e u2 ⟨rfl, hb⟩
        have hbd := zH (hb.mono T.out.size)
        replace T := zH (bThen T.out hb)
        replace KS := zH (KS.out.to hb)
        clear hb
        go_wp2_with fail
        refine ⟨hbd.out, ?_⟩
        clear hbd
        refine WT_one 7 rfl (by kernel_rfl) ?_
        unfold stepT
        go_wp2_with (go_at_call 95; refine (HM.out _ _ KS.out).mono ?_; rintro e w' ⟨rfl, rfl⟩)
        refine ⟨Below.refl _ _, ?_⟩
        refine WT_one 8 rfl (by kernel_rfl) ?_
        unfold stepT
        go_wp2_with (first | (go_at_call 94; refine (oUnless_any _ _ _).mono ?_; rintro e w' ⟨rfl, rfl⟩) | (go_at_call 98; refine (HLO.out _).mono ?_; rintro e w' ⟨rfl, rfl⟩) | (go_at_call 98; refine (HHI.out _).mono ?_; rintro e w' ⟨rfl, rfl⟩))
        refine ⟨Below.refl _ _, ?_⟩
        refine WT_one 14 rfl (by kernel_rfl) ?_
        unfold stepT
        go_wp2_with (first | (go_at_call 94; refine (oUnless_any _ _ _).mono ?_; rintro e w' ⟨rfl, rfl⟩) | (go_at_call 98; refine (HLO.out _).mono ?_; rintro e w' ⟨rfl, rfl⟩) | (go_at_call 98; refine (HHI.out _).mono ?_; rintro e w' ⟨rfl, rfl⟩))
        refine ⟨Below.refl _ _, ?_⟩
        refine WT_one 18 rfl (by kernel_rfl) ?_
        unfold stepT
        go_wp2_with (first | (go_at_call 94; refine (oUnless_any _ _ _).mono ?_; rintro e w' ⟨rfl, rfl⟩) | (go_at_call 98; refine (HLO.out _).mono ?_; rintro e w' ⟨rfl, rfl⟩) | (go_at_call 98; refine (HHI.out _).mono ?_; rintro e w' ⟨rfl, rfl⟩))
        refine ⟨Below.refl _ _, ?_⟩
        refine WT_one 19 rfl (by kernel_rfl) ?_
        unfold stepT
        go_wp2_with (first | (go_at_call 94; refine (oUnless_any _ _ _).mono ?_; rintro e w' ⟨rfl, rfl⟩) | (go_at_call 98; refine (HLO.out _).mono ?_; rintro e w' ⟨rfl, rfl⟩) | (go_at_call 98; refine (HHI.out _).mono ?_; rintro e w' ⟨rfl, rfl⟩))
        refine ⟨Below.refl _ _, ?_⟩
        refine WTq 20 ?_; apply Exists.intro; refine ⟨fun w1 hb1 => ?_, ?_⟩; (focus ((have hb1 := zH hb1; go_simp); (try (go_bits; try go_simp)); (try (rw [if_pos (by omega)]; try go_simp)); (first | done | (with_reducible rfl) | exact rfl)))
        simp only [Act.put, zzT, zzO, zzS]
        refine WTq 21 ?_; apply Exists.intro; refine ⟨fun w1 hb1 => ?_, ?_⟩; (focus ((have hb1 := zH hb1; go_simp); (try (go_bits; try go_simp)); (try (rw [if_pos (by omega)]; try go_simp)); (first | done | (with_reducible rfl) | exact rfl)))
        simp only [Act.put, zzT, zzO, zzS]
        refine WTq 22 ?_; apply Exists.intro; refine ⟨fun w1 hb1 => ?_, ?_⟩; (focus (((obtain ⟨-, k5, -⟩ := K5.out.to (T.out.trans hb1)); have hb1 := zH hb1; go_simp); (try (go_bits; try go_simp)); (try (rw [if_pos (by omega)]; try go_simp)); (first | done | (with_reducible rfl) | exact rfl)))
        simp only [Act.put, zzT, zzO, zzS]
        refine WT_one 23 rfl (by kernel_rfl) ?_
        unfold stepT
        go_wp2_with (first | (go_at_call 94; refine (oUnless_any _ _ _).mono ?_; rintro e w' ⟨rfl, rfl⟩) | (go_at_call 98; refine (HLO.out _).mono ?_; rintro e w' ⟨rfl, rfl⟩) | (go_at_call 98; refine (HHI.out _).mono ?_; rintro e w' ⟨rfl, rfl⟩))
        refine ⟨Below.refl _ _, ?_⟩
        refine WT_one 24 rfl (by kernel_rfl) ?_
        unfold stepT
        go_wp2_with (first | (go_at_call 94; refine (oUnless_any _ _ _).mono ?_; rintro e w' ⟨rfl, rfl⟩) | (go_at_call 98; refine (HLO.out _).mono ?_; rintro e w' ⟨rfl, rfl⟩) | (go_at_call 98; refine (HHI.out _).mono ?_; rintro e w' ⟨rfl, rfl⟩))
        refine ⟨Below.refl _ _, ?_⟩
        refine WT_one 25 rfl (by kernel_rfl) ?_
        unfold stepT
        go_wp2_with (first | (go_at_call 94; refine (oUnless_any _ _ _).mono ?_; rintro e w' ⟨rfl, rfl⟩) | (go_at_call 98; refine (HLO.out _).mono ?_; rintro e w' ⟨rfl, rfl⟩) | (go_at_call 98; refine (HHI.out _).mono ?_; rintro e w' ⟨rfl, rfl⟩))
        refine ⟨Below.refl _ _, ?_⟩
        refine WT_one 31 rfl (by kernel_rfl) ?_
        unfold stepT
        go_wp2_with (first | (go_at_call 94; refine (oUnless_any _ _ _).mono ?_; rintro e w' ⟨rfl, rfl⟩) | (go_at_call 98; refine (HLO.out _).mono ?_; rintro e w' ⟨rfl, rfl⟩) | (go_at_call 98; refine (HHI.out _).mono ?_; rintro e w' ⟨rfl, rfl⟩))
        refine ⟨Below.refl _ _, ?_⟩
        refine WT_one 32 rfl (by kernel_rfl) ?_
        unfold stepT
        go_wp2_with fail
        obtain ⟨u3, hwA⟩ : ∃ wA, u2.alloc (.cells #[.int .i64 ce, .int .i64 (unl cb 2), .int .i64 (unl (decide (a ≤ b)) 9), .int .i64 (unl (bh) 2), .int .i64 (unl (decide (lo ≤ hi)) 9)] 29) = wA := ⟨_, rfl⟩
        rw [hwA]
        have hb : Below u2.heap.size u2 u3 := by subst hwA; exact bAlloc (bSelf _) _
        have KF : Hid (Blk u3 u2.heap.size #[.int .i64 ce, .int .i64 (unl cb 2), .int .i64 (unl (decide (a ≤ b)) 9), .int .i64 (unl (bh) 2), .int .i64 (unl (decide (lo ≤ hi)) 9)]) := by subst hwA; exact Blk.new _ _ _
        clear hwA
        have hbd := zH (hb.mono T.out.size)
        replace T := zH (bThen T.out hb)
        refine ⟨hbd.out, ?_⟩
        clear hbd hb
        refine WT_one 33 rfl (by kernel_rfl) ?_
        unfold stepT
        go_wp2_with (go_at_call 92; refine (first5B_any _ _ _ _ _ _ _ KF.out).mono ?_; rintro e w' ⟨rfl, rfl⟩; rw [HE.out])
        refine ⟨Below.refl _ _, ?_⟩
        refine WT_one 34 rfl (by kernel_rfl) ?_
        unfold stepT
        go_wp2_with (first | (go_at_call 94; refine (oUnless_any _ _ _).mono ?_; rintro e w' ⟨rfl, rfl⟩) | (go_at_call 98; refine (HLO.out _).mono ?_; rintro e w' ⟨rfl, rfl⟩) | (go_at_call 98; refine (HHI.out _).mono ?_; rintro e w' ⟨rfl, rfl⟩))
        refine ⟨Below.refl _ _, ?_⟩
        refine WT_done (by kernel_rfl) ?_
        go_wp2_with fail
        go_meet
        case rel => exact ⟨rfl, zH T.out⟩
  clear HC HM HE HLO HHI
  obtain ⟨wo, hwo⟩ : ∃ wo, wo = wc := ⟨_, rfl⟩
  subst hwo
  obtain ⟨rfl, HWC⟩ := hcut
  replace K3 := zH (K3.out.to HWC.out)
  replace K4 := zH (K4.out.to HWC.out)
  replace K5 := zH (K5.out.to HWC.out)
  replace HB := zH (bThen HB.out HWC.out)
  clear HWC
  by_cases h0 : ve = 0
  · subst h0
    replace HS1 := zH (fun W => HS1.out W rfl)
    replace HS2 := zH (fun W => HS2.out W rfl)
    have hq1 := Nin.of_q (HQ1.out rfl)
    have hq2 := Nin.of_q (HQ2.out rfl)
    obtain ⟨l0, l1, l2⟩ := HBD.out rfl
    have hO := HO.out
    rw [if_pos rfl] at hO
    have HO' : Hid (vo = clrA (p1, p2) (q1, q2) lo hi) := zH hO
    have HL1 := zH (fun W => oBelow_any (q1, q2) lo W hq2.1 hq2.2 ⟨by omega, by omega⟩)
    have HL2 := zH (fun W => oLess_any (hi, 1) (p1, p2) W ⟨by dsimp only; omega, by dsimp only; omega⟩ ⟨by dsimp only; omega, by dsimp only; omega⟩ hq1.1 hq1.2)
    have HL3 := zH (fun W => oBelow_any (p1, p2) lo W hq1.1 hq1.2 ⟨by omega, by omega⟩)
    have HL4 := zH (fun W => oLess_any (hi, 1) (q1, q2) W ⟨by dsimp only; omega, by dsimp only; omega⟩ ⟨by dsimp only; omega, by dsimp only; omega⟩ hq2.1 hq2.2)
    clear HO hO HQ1 HQ2 HBD hq1 hq2 l0 l1 l2
    dsimp only at HL1 HL2 HL3 HL4
    obtain ⟨c1, hc1⟩ : ∃ c, lessQ (q1, q2) (lo, 1) = c := ⟨_, rfl⟩
    obtain ⟨c2, hc2⟩ : ∃ c, lessQ (hi, 1) (p1, p2) = c := ⟨_, rfl⟩
    obtain ⟨c3, hc3⟩ : ∃ c, lessQ (p1, p2) (lo, 1) = c := ⟨_, rfl⟩
    obtain ⟨c4, hc4⟩ : ∃ c, lessQ (hi, 1) (q1, q2) = c := ⟨_, rfl⟩
    have HV : Hid (vo = if (c1 || c2) = true then 2 else if (!c3 && !c4) = true then 0 else 1) := zH (by rw [HO'.out, ← hc1, ← hc2, ← hc3, ← hc4]; rfl)
    rw [hc1] at HL1
    rw [hc2] at HL2
    rw [hc3] at HL3
    rw [hc4] at HL4
    clear hc1 hc2 hc3 hc4 HO'
    go_wp2_with fail
    go_cut [10, 11] from 50 to 57 (fun s10 s11 wc => ∃ BA BZ, s10 = .pointer (some ⟨BA, 0, none⟩) ∧ s11 = .pointer (some ⟨BZ, 0, none⟩) ∧ Hid (Blk wc BA #[.int .i64 p1, .int .i64 p2]) ∧ Hid (Blk wc BZ #[.int .i64 q1, .int .i64 q2]) ∧ Hid (Below wo.heap.size wo wc))
    case first =>
      refine wp_region_tree (by kernel_rfl) (fun wd hwd => ?_)
      have T := zH hwd
      clear hwd
      refine WTq 0 ?_; apply Exists.intro; refine ⟨fun w1 hb1 => ?_, ?_⟩; (focus (((obtain ⟨-, k3, -⟩ := K3.out.to (T.out.trans hb1)); have hb1 := zH hb1; go_simp); (try (go_bits; try go_simp)); (try (rw [if_pos (by omega)]; try go_simp)); (first | done | (with_reducible rfl) | exact rfl)))
      simp only [Act.put, zzT, zzO, zzS]
      refine WTq 1 ?_; apply Exists.intro; refine ⟨fun w1 hb1 => ?_, ?_⟩; (focus ((have hb1 := zH hb1; go_simp); (try (go_bits; try go_simp)); (try (rw [if_pos (by omega)]; try go_simp)); (first | done | (with_reducible rfl) | exact rfl)))
      simp only [Act.put, zzT, zzO, zzS]
      refine WTq 2 ?_; apply Exists.intro; refine ⟨fun w1 hb1 => ?_, ?_⟩; (focus (((obtain ⟨-, k4, -⟩ := K4.out.to (T.out.trans hb1)); have hb1 := zH hb1; go_simp); (try (go_bits; try go_simp)); (try (rw [if_pos (by omega)]; try go_simp)); (first | done | (with_reducible rfl) | exact rfl)))
      simp only [Act.put, zzT, zzO, zzS]
      refine WTq 4 ?_; apply Exists.intro; refine ⟨fun w1 hb1 => ?_, ?_⟩; (focus (((obtain ⟨-, k3, -⟩ := K3.out.to (T.out.trans hb1)); have hb1 := zH hb1; go_simp); (try (go_bits; try go_simp)); (try (rw [if_pos (by omega)]; try go_simp)); (first | done | (with_reducible rfl) | exact rfl)))
      simp only [Act.put, zzT, zzO, zzS]
      refine WTq 5 ?_; apply Exists.intro; refine ⟨fun w1 hb1 => ?_, ?_⟩; (focus ((have hb1 := zH hb1; go_simp); (try (go_bits; try go_simp)); (try (rw [if_pos (by omega)]; try go_simp)); (first | done | (with_reducible rfl) | exact rfl)))
      simp only [Act.put, zzT, zzO, zzS]
      refine WTq 6 ?_; apply Exists.intro; refine ⟨fun w1 hb1 => ?_, ?_⟩; (focus (((obtain ⟨-, k4, -⟩ := K4.out.to (T.out.trans hb1)); have hb1 := zH hb1; go_simp); (try (go_bits; try go_simp)); (try (rw [if_pos (by omega)]; try go_simp)); (first | done | (with_reducible rfl) | exact rfl)))
      simp only [Act.put, zzT, zzO, zzS]
      refine WT_three 3 8 9 rfl rfl rfl (by kernel_rfl) ?_ ?_ ?_
      · unfold stepT
        go_wp2_with fail
        refine (HS1.out _).mono ?_
        rintro e u1 ⟨rfl, hb⟩
        have hbd := zH (hb.mono T.out.size)
        replace T := zH (bThen T.out hb)
        clear hb
        go_wp2_with fail
        refine ⟨hbd.out, ?_⟩
        clear hbd
        refine WT_three 7 8 9 rfl rfl rfl (by kernel_rfl) ?_ ?_ ?_
        · unfold stepT
          go_wp2_with fail
          refine (HS2.out _).mono ?_
          rintro e u2 ⟨rfl, hb⟩
          have hbd := zH (hb.mono T.out.size)
          replace T := zH (bThen T.out hb)
          clear hb
          go_wp2_with fail
          refine ⟨hbd.out, ?_⟩
          clear hbd
          refine WT_two 8 9 rfl rfl (by kernel_rfl) ?_ ?_
          · unfold stepT
            go_wp2_with fail
            obtain ⟨u3, hwA⟩ : ∃ wA, u2.alloc (.cells #[.int .i64 0, .int .i64 0] 160) = wA := ⟨_, rfl⟩
            rw [hwA]
            have hb : Below u2.heap.size u2 u3 := by subst hwA; exact bAlloc (bSelf _) _
            have KA : Hid (Blk u3 u2.heap.size #[.int .i64 0, .int .i64 0]) := by subst hwA; exact Blk.new _ _ _
            clear hwA
            obtain ⟨BA, hBA⟩ : ∃ N, u2.heap.size = N := ⟨_, rfl⟩
            have BAN : Hid (wo.heap.size ≤ BA) := zH (by rw [← hBA]; exact T.out.size)
            rw [hBA] at KA ⊢
            have hbd := zH (hb.mono T.out.size)
            replace T := zH (bThen T.out hb)
            refine ⟨hbd.out, ?_⟩
            clear hbd hb hBA
            refine WT_one 9 rfl (by kernel_rfl) ?_
            unfold stepT
            go_wp2_with fail
            obtain ⟨u4, hwA⟩ : ∃ wA, u3.alloc (.cells #[.int .i64 0, .int .i64 0] 160) = wA := ⟨_, rfl⟩
            rw [hwA]
            have hb : Below u3.heap.size u3 u4 := by subst hwA; exact bAlloc (bSelf _) _
            have hne : BA ≠ u3.heap.size := by have := KA.out.1; omega
            replace KA := zH (KA.out.to hb)
            have KZ : Hid (Blk u4 u3.heap.size #[.int .i64 0, .int .i64 0]) := by subst hwA; exact Blk.new _ _ _
            clear hwA
            obtain ⟨BZ, hBZ⟩ : ∃ N, u3.heap.size = N := ⟨_, rfl⟩
            have BZN : Hid (wo.heap.size ≤ BZ) := zH (by rw [← hBZ]; exact T.out.size)
            rw [hBZ] at KZ hne ⊢
            have hbd := zH (hb.mono T.out.size)
            replace T := zH (bThen T.out hb)
            refine ⟨hbd.out, ?_⟩
            clear hbd hb hBZ
            refine WT_one 10 rfl (by kernel_rfl) ?_
            unfold stepT
            have hne1 : BA ≠ BZ := by first | exact hne | exact fun e => hne e.symm
            have hne2 : BZ ≠ BA := fun e => hne1 e.symm
            obtain ⟨-, ka, fa⟩ := KA.out
            go_wp2_with fail
            clear ka fa
            refine ⟨((Below.refl _ _).setCell (p := ⟨_, 0, none⟩) BAN.out _).setCell (p := ⟨_, 1, none⟩) BAN.out _, ?_⟩
            refine WT_one 11 rfl (by kernel_rfl) ?_
            unfold stepT
            have KZ2 := zH ((KZ.out.other (p := ⟨BA, 0, none⟩) (by simpa using hne1) (.int .i64 p1)).other (p := ⟨BA, 1, none⟩) (by simpa using hne1) (.int .i64 p2))
            obtain ⟨-, kz, fz⟩ := KZ2.out
            go_wp2_with fail
            clear kz fz
            refine ⟨((Below.refl _ _).setCell (p := ⟨_, 0, none⟩) BZN.out _).setCell (p := ⟨_, 1, none⟩) BZN.out _, ?_⟩
            refine WT_done (by kernel_rfl) ?_
            have KA2 := ((KA.out.set 0 (.int .i64 p1)).set 1 (.int .i64 p2))
            go_wp2_with fail
            go_meet
            case rel => exact ⟨BA, BZ, rfl, rfl, zH ((KA2.other (p := ⟨BZ, 0, none⟩) (by simpa using hne2) _).other (p := ⟨BZ, 1, none⟩) (by simpa using hne2) _), zH ((KZ2.out.set 0 (.int .i64 q1)).set 1 (.int .i64 q2)), zH ((((T.out.setCell (p := ⟨BA, 0, none⟩) BAN.out _).setCell (p := ⟨BA, 1, none⟩) BAN.out _).setCell (p := ⟨BZ, 0, none⟩) BZN.out _).setCell (p := ⟨BZ, 1, none⟩) BZN.out _)⟩
          · unfold stepT
            go_wp2_with fail
            obtain ⟨u3, hwA⟩ : ∃ wA, u2.alloc (.cells #[.int .i64 0, .int .i64 0] 160) = wA := ⟨_, rfl⟩
            rw [hwA]
            have hb : Below u2.heap.size u2 u3 := by subst hwA; exact bAlloc (bSelf _) _
            have KZ : Hid (Blk u3 u2.heap.size #[.int .i64 0, .int .i64 0]) := by subst hwA; exact Blk.new _ _ _
            clear hwA
            obtain ⟨BZ, hBZ⟩ : ∃ N, u2.heap.size = N := ⟨_, rfl⟩
            have BZN : Hid (wo.heap.size ≤ BZ) := zH (by rw [← hBZ]; exact T.out.size)
            rw [hBZ] at KZ ⊢
            have hbd := zH (hb.mono T.out.size)
            replace T := zH (bThen T.out hb)
            refine ⟨hbd.out, ?_⟩
            clear hbd hb hBZ
            refine WT_one 8 rfl (by kernel_rfl) ?_
            unfold stepT
            go_wp2_with fail
            obtain ⟨u4, hwA⟩ : ∃ wA, u3.alloc (.cells #[.int .i64 0, .int .i64 0] 160) = wA := ⟨_, rfl⟩
            rw [hwA]
            have hb : Below u3.heap.size u3 u4 := by subst hwA; exact bAlloc (bSelf _) _
            have hne : BZ ≠ u3.heap.size := by have := KZ.out.1; omega
            replace KZ := zH (KZ.out.to hb)
            have KA : Hid (Blk u4 u3.heap.size #[.int .i64 0, .int .i64 0]) := by subst hwA; exact Blk.new _ _ _
            clear hwA
            obtain ⟨BA, hBA⟩ : ∃ N, u3.heap.size = N := ⟨_, rfl⟩
            have BAN : Hid (wo.heap.size ≤ BA) := zH (by rw [← hBA]; exact T.out.size)
            rw [hBA] at KA hne ⊢
            have hbd := zH (hb.mono T.out.size)
            replace T := zH (bThen T.out hb)
            refine ⟨hbd.out, ?_⟩
            clear hbd hb hBA
            refine WT_one 10 rfl (by kernel_rfl) ?_
            unfold stepT
            have hne1 : BA ≠ BZ := by first | exact hne | exact fun e => hne e.symm
            have hne2 : BZ ≠ BA := fun e => hne1 e.symm
            obtain ⟨-, ka, fa⟩ := KA.out
            go_wp2_with fail
            clear ka fa
            refine ⟨((Below.refl _ _).setCell (p := ⟨_, 0, none⟩) BAN.out _).setCell (p := ⟨_, 1, none⟩) BAN.out _, ?_⟩
            refine WT_one 11 rfl (by kernel_rfl) ?_
            unfold stepT
            have KZ2 := zH ((KZ.out.other (p := ⟨BA, 0, none⟩) (by simpa using hne1) (.int .i64 p1)).other (p := ⟨BA, 1, none⟩) (by simpa using hne1) (.int .i64 p2))
            obtain ⟨-, kz, fz⟩ := KZ2.out
            go_wp2_with fail
            clear kz fz
            refine ⟨((Below.refl _ _).setCell (p := ⟨_, 0, none⟩) BZN.out _).setCell (p := ⟨_, 1, none⟩) BZN.out _, ?_⟩
            refine WT_done (by kernel_rfl) ?_
            have KA2 := ((KA.out.set 0 (.int .i64 p1)).set 1 (.int .i64 p2))
            go_wp2_with fail
            go_meet
            case rel => exact ⟨BA, BZ, rfl, rfl, zH ((KA2.other (p := ⟨BZ, 0, none⟩) (by simpa using hne2) _).other (p := ⟨BZ, 1, none⟩) (by simpa using hne2) _), zH ((KZ2.out.set 0 (.int .i64 q1)).set 1 (.int .i64 q2)), zH ((((T.out.setCell (p := ⟨BA, 0, none⟩) BAN.out _).setCell (p := ⟨BA, 1, none⟩) BAN.out _).setCell (p := ⟨BZ, 0, none⟩) BZN.out _).setCell (p := ⟨BZ, 1, none⟩) BZN.out _)⟩
        · unfold stepT
          go_wp2_with fail
          obtain ⟨u2, hwA⟩ : ∃ wA, u1.alloc (.cells #[.int .i64 0, .int .i64 0] 160) = wA := ⟨_, rfl⟩
          rw [hwA]
          have hb : Below u1.heap.size u1 u2 := by subst hwA; exact bAlloc (bSelf _) _
          have KA : Hid (Blk u2 u1.heap.size #[.int .i64 0, .int .i64 0]) := by subst hwA; exact Blk.new _ _ _
          clear hwA
          obtain ⟨BA, hBA⟩ : ∃ N, u1.heap.size = N := ⟨_, rfl⟩
          have BAN : Hid (wo.heap.size ≤ BA) := zH (by rw [← hBA]; exact T.out.size)
          rw [hBA] at KA ⊢
          have hbd := zH (hb.mono T.out.size)
          replace T := zH (bThen T.out hb)
          refine ⟨hbd.out, ?_⟩
          clear hbd hb hBA
          refine WT_two 7 9 rfl rfl (by kernel_rfl) ?_ ?_
          · unfold stepT
            go_wp2_with fail
            refine (HS2.out _).mono ?_
            rintro e u3 ⟨rfl, hb⟩
            have hbd := zH (hb.mono T.out.size)
            replace T := zH (bThen T.out hb)
            replace KA := zH (KA.out.to hb)
            clear hb
            go_wp2_with fail
            refine ⟨hbd.out, ?_⟩
            clear hbd
            refine WT_one 9 rfl (by kernel_rfl) ?_
            unfold stepT
            go_wp2_with fail
            obtain ⟨u4, hwA⟩ : ∃ wA, u3.alloc (.cells #[.int .i64 0, .int .i64 0] 160) = wA := ⟨_, rfl⟩
            rw [hwA]
            have hb : Below u3.heap.size u3 u4 := by subst hwA; exact bAlloc (bSelf _) _
            have hne : BA ≠ u3.heap.size := by have := KA.out.1; omega
            replace KA := zH (KA.out.to hb)
            have KZ : Hid (Blk u4 u3.heap.size #[.int .i64 0, .int .i64 0]) := by subst hwA; exact Blk.new _ _ _
            clear hwA
            obtain ⟨BZ, hBZ⟩ : ∃ N, u3.heap.size = N := ⟨_, rfl⟩
            have BZN : Hid (wo.heap.size ≤ BZ) := zH (by rw [← hBZ]; exact T.out.size)
            rw [hBZ] at KZ hne ⊢
            have hbd := zH (hb.mono T.out.size)
            replace T := zH (bThen T.out hb)
            refine ⟨hbd.out, ?_⟩
            clear hbd hb hBZ
            refine WT_one 10 rfl (by kernel_rfl) ?_
            unfold stepT
            have hne1 : BA ≠ BZ := by first | exact hne | exact fun e => hne e.symm
            have hne2 : BZ ≠ BA := fun e => hne1 e.symm
            obtain ⟨-, ka, fa⟩ := KA.out
            go_wp2_with fail
            clear ka fa
            refine ⟨((Below.refl _ _).setCell (p := ⟨_, 0, none⟩) BAN.out _).setCell (p := ⟨_, 1, none⟩) BAN.out _, ?_⟩
            refine WT_one 11 rfl (by kernel_rfl) ?_
            unfold stepT
            have KZ2 := zH ((KZ.out.other (p := ⟨BA, 0, none⟩) (by simpa using hne1) (.int .i64 p1)).other (p := ⟨BA, 1, none⟩) (by simpa using hne1) (.int .i64 p2))
            obtain ⟨-, kz, fz⟩ := KZ2.out
            go_wp2_with fail
            clear kz fz
            refine ⟨((Below.refl _ _).setCell (p := ⟨_, 0, none⟩) BZN.out _).setCell (p := ⟨_, 1, none⟩) BZN.out _, ?_⟩
            refine WT_done (by kernel_rfl) ?_
            have KA2 := ((KA.out.set 0 (.int .i64 p1)).set 1 (.int .i64 p2))
            go_wp2_with fail
            go_meet
            case rel => exact ⟨BA, BZ, rfl, rfl, zH ((KA2.other (p := ⟨BZ, 0, none⟩) (by simpa using hne2) _).other (p := ⟨BZ, 1, none⟩) (by simpa using hne2) _), zH ((KZ2.out.set 0 (.int .i64 q1)).set 1 (.int .i64 q2)), zH ((((T.out.setCell (p := ⟨BA, 0, none⟩) BAN.out _).setCell (p := ⟨BA, 1, none⟩) BAN.out _).setCell (p := ⟨BZ, 0, none⟩) BZN.out _).setCell (p := ⟨BZ, 1, none⟩) BZN.out _)⟩
          · unfold stepT
            go_wp2_with fail
            obtain ⟨u3, hwA⟩ : ∃ wA, u2.alloc (.cells #[.int .i64 0, .int .i64 0] 160) = wA := ⟨_, rfl⟩
            rw [hwA]
            have hb : Below u2.heap.size u2 u3 := by subst hwA; exact bAlloc (bSelf _) _
            have hne : BA ≠ u2.heap.size := by have := KA.out.1; omega
            replace KA := zH (KA.out.to hb)
            have KZ : Hid (Blk u3 u2.heap.size #[.int .i64 0, .int .i64 0]) := by subst hwA; exact Blk.new _ _ _
            clear hwA
            obtain ⟨BZ, hBZ⟩ : ∃ N, u2.heap.size = N := ⟨_, rfl⟩
            have BZN : Hid (wo.heap.size ≤ BZ) := zH (by rw [← hBZ]; exact T.out.size)
            rw [hBZ] at KZ hne ⊢
            have hbd := zH (hb.mono T.out.size)
            replace T := zH (bThen T.out hb)
            refine ⟨hbd.out, ?_⟩
            clear hbd hb hBZ
            refine WT_one 7 rfl (by kernel_rfl) ?_
            unfold stepT
            go_wp2_with fail
            refine (HS2.out _).mono ?_
            rintro e u4 ⟨rfl, hb⟩
            have hbd := zH (hb.mono T.out.size)
            replace T := zH (bThen T.out hb)
            replace KA := zH (KA.out.to hb)
            replace KZ := zH (KZ.out.to hb)
            clear hb
            go_wp2_with fail
            refine ⟨hbd.out, ?_⟩
            clear hbd
            refine WT_one 10 rfl (by kernel_rfl) ?_
            unfold stepT
            have hne1 : BA ≠ BZ := by first | exact hne | exact fun e => hne e.symm
            have hne2 : BZ ≠ BA := fun e => hne1 e.symm
            obtain ⟨-, ka, fa⟩ := KA.out
            go_wp2_with fail
            clear ka fa
            refine ⟨((Below.refl _ _).setCell (p := ⟨_, 0, none⟩) BAN.out _).setCell (p := ⟨_, 1, none⟩) BAN.out _, ?_⟩
            refine WT_one 11 rfl (by kernel_rfl) ?_
            unfold stepT
            have KZ2 := zH ((KZ.out.other (p := ⟨BA, 0, none⟩) (by simpa using hne1) (.int .i64 p1)).other (p := ⟨BA, 1, none⟩) (by simpa using hne1) (.int .i64 p2))
            obtain ⟨-, kz, fz⟩ := KZ2.out
            go_wp2_with fail
            clear kz fz
            refine ⟨((Below.refl _ _).setCell (p := ⟨_, 0, none⟩) BZN.out _).setCell (p := ⟨_, 1, none⟩) BZN.out _, ?_⟩
            refine WT_done (by kernel_rfl) ?_
            have KA2 := ((KA.out.set 0 (.int .i64 p1)).set 1 (.int .i64 p2))
            go_wp2_with fail
            go_meet
            case rel => exact ⟨BA, BZ, rfl, rfl, zH ((KA2.other (p := ⟨BZ, 0, none⟩) (by simpa using hne2) _).other (p := ⟨BZ, 1, none⟩) (by simpa using hne2) _), zH ((KZ2.out.set 0 (.int .i64 q1)).set 1 (.int .i64 q2)), zH ((((T.out.setCell (p := ⟨BA, 0, none⟩) BAN.out _).setCell (p := ⟨BA, 1, none⟩) BAN.out _).setCell (p := ⟨BZ, 0, none⟩) BZN.out _).setCell (p := ⟨BZ, 1, none⟩) BZN.out _)⟩
        · unfold stepT
          go_wp2_with fail
          obtain ⟨u2, hwA⟩ : ∃ wA, u1.alloc (.cells #[.int .i64 0, .int .i64 0] 160) = wA := ⟨_, rfl⟩
          rw [hwA]
          have hb : Below u1.heap.size u1 u2 := by subst hwA; exact bAlloc (bSelf _) _
          have KZ : Hid (Blk u2 u1.heap.size #[.int .i64 0, .int .i64 0]) := by subst hwA; exact Blk.new _ _ _
          clear hwA
          obtain ⟨BZ, hBZ⟩ : ∃ N, u1.heap.size = N := ⟨_, rfl⟩
          have BZN : Hid (wo.heap.size ≤ BZ) := zH (by rw [← hBZ]; exact T.out.size)
          rw [hBZ] at KZ ⊢
          have hbd := zH (hb.mono T.out.size)
          replace T := zH (bThen T.out hb)
          refine ⟨hbd.out, ?_⟩
          clear hbd hb hBZ
          refine WT_two 7 8 rfl rfl (by kernel_rfl) ?_ ?_
          · unfold stepT
            go_wp2_with fail
            refine (HS2.out _).mono ?_
            rintro e u3 ⟨rfl, hb⟩
            have hbd := zH (hb.mono T.out.size)
            replace T := zH (bThen T.out hb)
            replace KZ := zH (KZ.out.to hb)
            clear hb
            go_wp2_with fail
            refine ⟨hbd.out, ?_⟩
            clear hbd
            refine WT_one 8 rfl (by kernel_rfl) ?_
            unfold stepT
            go_wp2_with fail
            obtain ⟨u4, hwA⟩ : ∃ wA, u3.alloc (.cells #[.int .i64 0, .int .i64 0] 160) = wA := ⟨_, rfl⟩
            rw [hwA]
            have hb : Below u3.heap.size u3 u4 := by subst hwA; exact bAlloc (bSelf _) _
            have hne : BZ ≠ u3.heap.size := by have := KZ.out.1; omega
            replace KZ := zH (KZ.out.to hb)
            have KA : Hid (Blk u4 u3.heap.size #[.int .i64 0, .int .i64 0]) := by subst hwA; exact Blk.new _ _ _
            clear hwA
            obtain ⟨BA, hBA⟩ : ∃ N, u3.heap.size = N := ⟨_, rfl⟩
            have BAN : Hid (wo.heap.size ≤ BA) := zH (by rw [← hBA]; exact T.out.size)
            rw [hBA] at KA hne ⊢
            have hbd := zH (hb.mono T.out.size)
            replace T := zH (bThen T.out hb)
            refine ⟨hbd.out, ?_⟩
            clear hbd hb hBA
            refine WT_one 10 rfl (by kernel_rfl) ?_
            unfold stepT
            have hne1 : BA ≠ BZ := by first | exact hne | exact fun e => hne e.symm
            have hne2 : BZ ≠ BA := fun e => hne1 e.symm
            obtain ⟨-, ka, fa⟩ := KA.out
            go_wp2_with fail
            clear ka fa
            refine ⟨((Below.refl _ _).setCell (p := ⟨_, 0, none⟩) BAN.out _).setCell (p := ⟨_, 1, none⟩) BAN.out _, ?_⟩
            refine WT_one 11 rfl (by kernel_rfl) ?_
            unfold stepT
            have KZ2 := zH ((KZ.out.other (p := ⟨BA, 0, none⟩) (by simpa using hne1) (.int .i64 p1)).other (p := ⟨BA, 1, none⟩) (by simpa using hne1) (.int .i64 p2))
            obtain ⟨-, kz, fz⟩ := KZ2.out
            go_wp2_with fail
            clear kz fz
            refine ⟨((Below.refl _ _).setCell (p := ⟨_, 0, none⟩) BZN.out _).setCell (p := ⟨_, 1, none⟩) BZN.out _, ?_⟩
            refine WT_done (by kernel_rfl) ?_
            have KA2 := ((KA.out.set 0 (.int .i64 p1)).set 1 (.int .i64 p2))
            go_wp2_with fail
            go_meet
            case rel => exact ⟨BA, BZ, rfl, rfl, zH ((KA2.other (p := ⟨BZ, 0, none⟩) (by simpa using hne2) _).other (p := ⟨BZ, 1, none⟩) (by simpa using hne2) _), zH ((KZ2.out.set 0 (.int .i64 q1)).set 1 (.int .i64 q2)), zH ((((T.out.setCell (p := ⟨BA, 0, none⟩) BAN.out _).setCell (p := ⟨BA, 1, none⟩) BAN.out _).setCell (p := ⟨BZ, 0, none⟩) BZN.out _).setCell (p := ⟨BZ, 1, none⟩) BZN.out _)⟩
          · unfold stepT
            go_wp2_with fail
            obtain ⟨u3, hwA⟩ : ∃ wA, u2.alloc (.cells #[.int .i64 0, .int .i64 0] 160) = wA := ⟨_, rfl⟩
            rw [hwA]
            have hb : Below u2.heap.size u2 u3 := by subst hwA; exact bAlloc (bSelf _) _
            have hne : BZ ≠ u2.heap.size := by have := KZ.out.1; omega
            replace KZ := zH (KZ.out.to hb)
            have KA : Hid (Blk u3 u2.heap.size #[.int .i64 0, .int .i64 0]) := by subst hwA; exact Blk.new _ _ _
            clear hwA
            obtain ⟨BA, hBA⟩ : ∃ N, u2.heap.size = N := ⟨_, rfl⟩
            have BAN : Hid (wo.heap.size ≤ BA) := zH (by rw [← hBA]; exact T.out.size)
            rw [hBA] at KA hne ⊢
            have hbd := zH (hb.mono T.out.size)
            replace T := zH (bThen T.out hb)
            refine ⟨hbd.out, ?_⟩
            clear hbd hb hBA
            refine WT_one 7 rfl (by kernel_rfl) ?_
            unfold stepT
            go_wp2_with fail
            refine (HS2.out _).mono ?_
            rintro e u4 ⟨rfl, hb⟩
            have hbd := zH (hb.mono T.out.size)
            replace T := zH (bThen T.out hb)
            replace KA := zH (KA.out.to hb)
            replace KZ := zH (KZ.out.to hb)
            clear hb
            go_wp2_with fail
            refine ⟨hbd.out, ?_⟩
            clear hbd
            refine WT_one 10 rfl (by kernel_rfl) ?_
            unfold stepT
            have hne1 : BA ≠ BZ := by first | exact hne | exact fun e => hne e.symm
            have hne2 : BZ ≠ BA := fun e => hne1 e.symm
            obtain ⟨-, ka, fa⟩ := KA.out
            go_wp2_with fail
            clear ka fa
            refine ⟨((Below.refl _ _).setCell (p := ⟨_, 0, none⟩) BAN.out _).setCell (p := ⟨_, 1, none⟩) BAN.out _, ?_⟩
            refine WT_one 11 rfl (by kernel_rfl) ?_
            unfold stepT
            have KZ2 := zH ((KZ.out.other (p := ⟨BA, 0, none⟩) (by simpa using hne1) (.int .i64 p1)).other (p := ⟨BA, 1, none⟩) (by simpa using hne1) (.int .i64 p2))
            obtain ⟨-, kz, fz⟩ := KZ2.out
            go_wp2_with fail
            clear kz fz
            refine ⟨((Below.refl _ _).setCell (p := ⟨_, 0, none⟩) BZN.out _).setCell (p := ⟨_, 1, none⟩) BZN.out _, ?_⟩
            refine WT_done (by kernel_rfl) ?_
            have KA2 := ((KA.out.set 0 (.int .i64 p1)).set 1 (.int .i64 p2))
            go_wp2_with fail
            go_meet
            case rel => exact ⟨BA, BZ, rfl, rfl, zH ((KA2.other (p := ⟨BZ, 0, none⟩) (by simpa using hne2) _).other (p := ⟨BZ, 1, none⟩) (by simpa using hne2) _), zH ((KZ2.out.set 0 (.int .i64 q1)).set 1 (.int .i64 q2)), zH ((((T.out.setCell (p := ⟨BA, 0, none⟩) BAN.out _).setCell (p := ⟨BA, 1, none⟩) BAN.out _).setCell (p := ⟨BZ, 0, none⟩) BZN.out _).setCell (p := ⟨BZ, 1, none⟩) BZN.out _)⟩
      · unfold stepT
        go_wp2_with fail
        obtain ⟨u1, hwA⟩ : ∃ wA, wd.alloc (.cells #[.int .i64 0, .int .i64 0] 160) = wA := ⟨_, rfl⟩
        rw [hwA]
        have hb : Below wd.heap.size wd u1 := by subst hwA; exact bAlloc (bSelf _) _
        have KA : Hid (Blk u1 wd.heap.size #[.int .i64 0, .int .i64 0]) := by subst hwA; exact Blk.new _ _ _
        clear hwA
        obtain ⟨BA, hBA⟩ : ∃ N, wd.heap.size = N := ⟨_, rfl⟩
        have BAN : Hid (wo.heap.size ≤ BA) := zH (by rw [← hBA]; exact T.out.size)
        rw [hBA] at KA ⊢
        have hbd := zH (hb.mono T.out.size)
        replace T := zH (bThen T.out hb)
        refine ⟨hbd.out, ?_⟩
        clear hbd hb hBA
        refine WT_two 3 9 rfl rfl (by kernel_rfl) ?_ ?_
        · unfold stepT
          go_wp2_with fail
          refine (HS1.out _).mono ?_
          rintro e u2 ⟨rfl, hb⟩
          have hbd := zH (hb.mono T.out.size)
          replace T := zH (bThen T.out hb)
          replace KA := zH (KA.out.to hb)
          clear hb
          go_wp2_with fail
          refine ⟨hbd.out, ?_⟩
          clear hbd
          refine WT_two 7 9 rfl rfl (by kernel_rfl) ?_ ?_
          · unfold stepT
            go_wp2_with fail
            refine (HS2.out _).mono ?_
            rintro e u3 ⟨rfl, hb⟩
            have hbd := zH (hb.mono T.out.size)
            replace T := zH (bThen T.out hb)
            replace KA := zH (KA.out.to hb)
            clear hb
            go_wp2_with fail
            refine ⟨hbd.out, ?_⟩
            clear hbd
            refine WT_one 9 rfl (by kernel_rfl) ?_
            unfold stepT
            go_wp2_with fail
            obtain ⟨u4, hwA⟩ : ∃ wA, u3.alloc (.cells #[.int .i64 0, .int .i64 0] 160) = wA := ⟨_, rfl⟩
            rw [hwA]
            have hb : Below u3.heap.size u3 u4 := by subst hwA; exact bAlloc (bSelf _) _
            have hne : BA ≠ u3.heap.size := by have := KA.out.1; omega
            replace KA := zH (KA.out.to hb)
            have KZ : Hid (Blk u4 u3.heap.size #[.int .i64 0, .int .i64 0]) := by subst hwA; exact Blk.new _ _ _
            clear hwA
            obtain ⟨BZ, hBZ⟩ : ∃ N, u3.heap.size = N := ⟨_, rfl⟩
            have BZN : Hid (wo.heap.size ≤ BZ) := zH (by rw [← hBZ]; exact T.out.size)
            rw [hBZ] at KZ hne ⊢
            have hbd := zH (hb.mono T.out.size)
            replace T := zH (bThen T.out hb)
            refine ⟨hbd.out, ?_⟩
            clear hbd hb hBZ
            refine WT_one 10 rfl (by kernel_rfl) ?_
            unfold stepT
            have hne1 : BA ≠ BZ := by first | exact hne | exact fun e => hne e.symm
            have hne2 : BZ ≠ BA := fun e => hne1 e.symm
            obtain ⟨-, ka, fa⟩ := KA.out
            go_wp2_with fail
            clear ka fa
            refine ⟨((Below.refl _ _).setCell (p := ⟨_, 0, none⟩) BAN.out _).setCell (p := ⟨_, 1, none⟩) BAN.out _, ?_⟩
            refine WT_one 11 rfl (by kernel_rfl) ?_
            unfold stepT
            have KZ2 := zH ((KZ.out.other (p := ⟨BA, 0, none⟩) (by simpa using hne1) (.int .i64 p1)).other (p := ⟨BA, 1, none⟩) (by simpa using hne1) (.int .i64 p2))
            obtain ⟨-, kz, fz⟩ := KZ2.out
            go_wp2_with fail
            clear kz fz
            refine ⟨((Below.refl _ _).setCell (p := ⟨_, 0, none⟩) BZN.out _).setCell (p := ⟨_, 1, none⟩) BZN.out _, ?_⟩
            refine WT_done (by kernel_rfl) ?_
            have KA2 := ((KA.out.set 0 (.int .i64 p1)).set 1 (.int .i64 p2))
            go_wp2_with fail
            go_meet
            case rel => exact ⟨BA, BZ, rfl, rfl, zH ((KA2.other (p := ⟨BZ, 0, none⟩) (by simpa using hne2) _).other (p := ⟨BZ, 1, none⟩) (by simpa using hne2) _), zH ((KZ2.out.set 0 (.int .i64 q1)).set 1 (.int .i64 q2)), zH ((((T.out.setCell (p := ⟨BA, 0, none⟩) BAN.out _).setCell (p := ⟨BA, 1, none⟩) BAN.out _).setCell (p := ⟨BZ, 0, none⟩) BZN.out _).setCell (p := ⟨BZ, 1, none⟩) BZN.out _)⟩
          · unfold stepT
            go_wp2_with fail
            obtain ⟨u3, hwA⟩ : ∃ wA, u2.alloc (.cells #[.int .i64 0, .int .i64 0] 160) = wA := ⟨_, rfl⟩
            rw [hwA]
            have hb : Below u2.heap.size u2 u3 := by subst hwA; exact bAlloc (bSelf _) _
            have hne : BA ≠ u2.heap.size := by have := KA.out.1; omega
            replace KA := zH (KA.out.to hb)
            have KZ : Hid (Blk u3 u2.heap.size #[.int .i64 0, .int .i64 0]) := by subst hwA; exact Blk.new _ _ _
            clear hwA
            obtain ⟨BZ, hBZ⟩ : ∃ N, u2.heap.size = N := ⟨_, rfl⟩
            have BZN : Hid (wo.heap.size ≤ BZ) := zH (by rw [← hBZ]; exact T.out.size)
            rw [hBZ] at KZ hne ⊢
            have hbd := zH (hb.mono T.out.size)
            replace T := zH (bThen T.out hb)
            refine ⟨hbd.out, ?_⟩
            clear hbd hb hBZ
            refine WT_one 7 rfl (by kernel_rfl) ?_
            unfold stepT
            go_wp2_with fail
            refine (HS2.out _).mono ?_
            rintro e u4 ⟨rfl, hb⟩
            have hbd := zH (hb.mono T.out.size)
            replace T := zH (bThen T.out hb)
            replace KA := zH (KA.out.to hb)
            replace KZ := zH (KZ.out.to hb)
            clear hb
            go_wp2_with fail
            refine ⟨hbd.out, ?_⟩
            clear hbd
            refine WT_one 10 rfl (by kernel_rfl) ?_
            unfold stepT
            have hne1 : BA ≠ BZ := by first | exact hne | exact fun e => hne e.symm
            have hne2 : BZ ≠ BA := fun e => hne1 e.symm
            obtain ⟨-, ka, fa⟩ := KA.out
            go_wp2_with fail
            clear ka fa
            refine ⟨((Below.refl _ _).setCell (p := ⟨_, 0, none⟩) BAN.out _).setCell (p := ⟨_, 1, none⟩) BAN.out _, ?_⟩
            refine WT_one 11 rfl (by kernel_rfl) ?_
            unfold stepT
            have KZ2 := zH ((KZ.out.other (p := ⟨BA, 0, none⟩) (by simpa using hne1) (.int .i64 p1)).other (p := ⟨BA, 1, none⟩) (by simpa using hne1) (.int .i64 p2))
            obtain ⟨-, kz, fz⟩ := KZ2.out
            go_wp2_with fail
            clear kz fz
            refine ⟨((Below.refl _ _).setCell (p := ⟨_, 0, none⟩) BZN.out _).setCell (p := ⟨_, 1, none⟩) BZN.out _, ?_⟩
            refine WT_done (by kernel_rfl) ?_
            have KA2 := ((KA.out.set 0 (.int .i64 p1)).set 1 (.int .i64 p2))
            go_wp2_with fail
            go_meet
            case rel => exact ⟨BA, BZ, rfl, rfl, zH ((KA2.other (p := ⟨BZ, 0, none⟩) (by simpa using hne2) _).other (p := ⟨BZ, 1, none⟩) (by simpa using hne2) _), zH ((KZ2.out.set 0 (.int .i64 q1)).set 1 (.int .i64 q2)), zH ((((T.out.setCell (p := ⟨BA, 0, none⟩) BAN.out _).setCell (p := ⟨BA, 1, none⟩) BAN.out _).setCell (p := ⟨BZ, 0, none⟩) BZN.out _).setCell (p := ⟨BZ, 1, none⟩) BZN.out _)⟩
        · unfold stepT
          go_wp2_with fail
          obtain ⟨u2, hwA⟩ : ∃ wA, u1.alloc (.cells #[.int .i64 0, .int .i64 0] 160) = wA := ⟨_, rfl⟩
          rw [hwA]
          have hb : Below u1.heap.size u1 u2 := by subst hwA; exact bAlloc (bSelf _) _
          have hne : BA ≠ u1.heap.size := by have := KA.out.1; omega
          replace KA := zH (KA.out.to hb)
          have KZ : Hid (Blk u2 u1.heap.size #[.int .i64 0, .int .i64 0]) := by subst hwA; exact Blk.new _ _ _
          clear hwA
          obtain ⟨BZ, hBZ⟩ : ∃ N, u1.heap.size = N := ⟨_, rfl⟩
          have BZN : Hid (wo.heap.size ≤ BZ) := zH (by rw [← hBZ]; exact T.out.size)
          rw [hBZ] at KZ hne ⊢
          have hbd := zH (hb.mono T.out.size)
          replace T := zH (bThen T.out hb)
          refine ⟨hbd.out, ?_⟩
          clear hbd hb hBZ
          refine WT_one 3 rfl (by kernel_rfl) ?_
          unfold stepT
          go_wp2_with fail
          refine (HS1.out _).mono ?_
          rintro e u3 ⟨rfl, hb⟩
          have hbd := zH (hb.mono T.out.size)
          replace T := zH (bThen T.out hb)
          replace KA := zH (KA.out.to hb)
          replace KZ := zH (KZ.out.to hb)
          clear hb
          go_wp2_with fail
          refine ⟨hbd.out, ?_⟩
          clear hbd
          refine WT_one 7 rfl (by kernel_rfl) ?_
          unfold stepT
          go_wp2_with fail
          refine (HS2.out _).mono ?_
          rintro e u4 ⟨rfl, hb⟩
          have hbd := zH (hb.mono T.out.size)
          replace T := zH (bThen T.out hb)
          replace KA := zH (KA.out.to hb)
          replace KZ := zH (KZ.out.to hb)
          clear hb
          go_wp2_with fail
          refine ⟨hbd.out, ?_⟩
          clear hbd
          refine WT_one 10 rfl (by kernel_rfl) ?_
          unfold stepT
          have hne1 : BA ≠ BZ := by first | exact hne | exact fun e => hne e.symm
          have hne2 : BZ ≠ BA := fun e => hne1 e.symm
          obtain ⟨-, ka, fa⟩ := KA.out
          go_wp2_with fail
          clear ka fa
          refine ⟨((Below.refl _ _).setCell (p := ⟨_, 0, none⟩) BAN.out _).setCell (p := ⟨_, 1, none⟩) BAN.out _, ?_⟩
          refine WT_one 11 rfl (by kernel_rfl) ?_
          unfold stepT
          have KZ2 := zH ((KZ.out.other (p := ⟨BA, 0, none⟩) (by simpa using hne1) (.int .i64 p1)).other (p := ⟨BA, 1, none⟩) (by simpa using hne1) (.int .i64 p2))
          obtain ⟨-, kz, fz⟩ := KZ2.out
          go_wp2_with fail
          clear kz fz
          refine ⟨((Below.refl _ _).setCell (p := ⟨_, 0, none⟩) BZN.out _).setCell (p := ⟨_, 1, none⟩) BZN.out _, ?_⟩
          refine WT_done (by kernel_rfl) ?_
          have KA2 := ((KA.out.set 0 (.int .i64 p1)).set 1 (.int .i64 p2))
          go_wp2_with fail
          go_meet
          case rel => exact ⟨BA, BZ, rfl, rfl, zH ((KA2.other (p := ⟨BZ, 0, none⟩) (by simpa using hne2) _).other (p := ⟨BZ, 1, none⟩) (by simpa using hne2) _), zH ((KZ2.out.set 0 (.int .i64 q1)).set 1 (.int .i64 q2)), zH ((((T.out.setCell (p := ⟨BA, 0, none⟩) BAN.out _).setCell (p := ⟨BA, 1, none⟩) BAN.out _).setCell (p := ⟨BZ, 0, none⟩) BZN.out _).setCell (p := ⟨BZ, 1, none⟩) BZN.out _)⟩
      · unfold stepT
        go_wp2_with fail
        obtain ⟨u1, hwA⟩ : ∃ wA, wd.alloc (.cells #[.int .i64 0, .int .i64 0] 160) = wA := ⟨_, rfl⟩
        rw [hwA]
        have hb : Below wd.heap.size wd u1 := by subst hwA; exact bAlloc (bSelf _) _
        have KZ : Hid (Blk u1 wd.heap.size #[.int .i64 0, .int .i64 0]) := by subst hwA; exact Blk.new _ _ _
        clear hwA
        obtain ⟨BZ, hBZ⟩ : ∃ N, wd.heap.size = N := ⟨_, rfl⟩
        have BZN : Hid (wo.heap.size ≤ BZ) := zH (by rw [← hBZ]; exact T.out.size)
        rw [hBZ] at KZ ⊢
        have hbd := zH (hb.mono T.out.size)
        replace T := zH (bThen T.out hb)
        refine ⟨hbd.out, ?_⟩
        clear hbd hb hBZ
        refine WT_two 3 8 rfl rfl (by kernel_rfl) ?_ ?_
        · unfold stepT
          go_wp2_with fail
          refine (HS1.out _).mono ?_
          rintro e u2 ⟨rfl, hb⟩
          have hbd := zH (hb.mono T.out.size)
          replace T := zH (bThen T.out hb)
          replace KZ := zH (KZ.out.to hb)
          clear hb
          go_wp2_with fail
          refine ⟨hbd.out, ?_⟩
          clear hbd
          refine WT_two 7 8 rfl rfl (by kernel_rfl) ?_ ?_
          · unfold stepT
            go_wp2_with fail
            refine (HS2.out _).mono ?_
            rintro e u3 ⟨rfl, hb⟩
            have hbd := zH (hb.mono T.out.size)
            replace T := zH (bThen T.out hb)
            replace KZ := zH (KZ.out.to hb)
            clear hb
            go_wp2_with fail
            refine ⟨hbd.out, ?_⟩
            clear hbd
            refine WT_one 8 rfl (by kernel_rfl) ?_
            unfold stepT
            go_wp2_with fail
            obtain ⟨u4, hwA⟩ : ∃ wA, u3.alloc (.cells #[.int .i64 0, .int .i64 0] 160) = wA := ⟨_, rfl⟩
            rw [hwA]
            have hb : Below u3.heap.size u3 u4 := by subst hwA; exact bAlloc (bSelf _) _
            have hne : BZ ≠ u3.heap.size := by have := KZ.out.1; omega
            replace KZ := zH (KZ.out.to hb)
            have KA : Hid (Blk u4 u3.heap.size #[.int .i64 0, .int .i64 0]) := by subst hwA; exact Blk.new _ _ _
            clear hwA
            obtain ⟨BA, hBA⟩ : ∃ N, u3.heap.size = N := ⟨_, rfl⟩
            have BAN : Hid (wo.heap.size ≤ BA) := zH (by rw [← hBA]; exact T.out.size)
            rw [hBA] at KA hne ⊢
            have hbd := zH (hb.mono T.out.size)
            replace T := zH (bThen T.out hb)
            refine ⟨hbd.out, ?_⟩
            clear hbd hb hBA
            refine WT_one 10 rfl (by kernel_rfl) ?_
            unfold stepT
            have hne1 : BA ≠ BZ := by first | exact hne | exact fun e => hne e.symm
            have hne2 : BZ ≠ BA := fun e => hne1 e.symm
            obtain ⟨-, ka, fa⟩ := KA.out
            go_wp2_with fail
            clear ka fa
            refine ⟨((Below.refl _ _).setCell (p := ⟨_, 0, none⟩) BAN.out _).setCell (p := ⟨_, 1, none⟩) BAN.out _, ?_⟩
            refine WT_one 11 rfl (by kernel_rfl) ?_
            unfold stepT
            have KZ2 := zH ((KZ.out.other (p := ⟨BA, 0, none⟩) (by simpa using hne1) (.int .i64 p1)).other (p := ⟨BA, 1, none⟩) (by simpa using hne1) (.int .i64 p2))
            obtain ⟨-, kz, fz⟩ := KZ2.out
            go_wp2_with fail
            clear kz fz
            refine ⟨((Below.refl _ _).setCell (p := ⟨_, 0, none⟩) BZN.out _).setCell (p := ⟨_, 1, none⟩) BZN.out _, ?_⟩
            refine WT_done (by kernel_rfl) ?_
            have KA2 := ((KA.out.set 0 (.int .i64 p1)).set 1 (.int .i64 p2))
            go_wp2_with fail
            go_meet
            case rel => exact ⟨BA, BZ, rfl, rfl, zH ((KA2.other (p := ⟨BZ, 0, none⟩) (by simpa using hne2) _).other (p := ⟨BZ, 1, none⟩) (by simpa using hne2) _), zH ((KZ2.out.set 0 (.int .i64 q1)).set 1 (.int .i64 q2)), zH ((((T.out.setCell (p := ⟨BA, 0, none⟩) BAN.out _).setCell (p := ⟨BA, 1, none⟩) BAN.out _).setCell (p := ⟨BZ, 0, none⟩) BZN.out _).setCell (p := ⟨BZ, 1, none⟩) BZN.out _)⟩
          · unfold stepT
            go_wp2_with fail
            obtain ⟨u3, hwA⟩ : ∃ wA, u2.alloc (.cells #[.int .i64 0, .int .i64 0] 160) = wA := ⟨_, rfl⟩
            rw [hwA]
            have hb : Below u2.heap.size u2 u3 := by subst hwA; exact bAlloc (bSelf _) _
            have hne : BZ ≠ u2.heap.size := by have := KZ.out.1; omega
            replace KZ := zH (KZ.out.to hb)
            have KA : Hid (Blk u3 u2.heap.size #[.int .i64 0, .int .i64 0]) := by subst hwA; exact Blk.new _ _ _
            clear hwA
            obtain ⟨BA, hBA⟩ : ∃ N, u2.heap.size = N := ⟨_, rfl⟩
            have BAN : Hid (wo.heap.size ≤ BA) := zH (by rw [← hBA]; exact T.out.size)
            rw [hBA] at KA hne ⊢
            have hbd := zH (hb.mono T.out.size)
            replace T := zH (bThen T.out hb)
            refine ⟨hbd.out, ?_⟩
            clear hbd hb hBA
            refine WT_one 7 rfl (by kernel_rfl) ?_
            unfold stepT
            go_wp2_with fail
            refine (HS2.out _).mono ?_
            rintro e u4 ⟨rfl, hb⟩
            have hbd := zH (hb.mono T.out.size)
            replace T := zH (bThen T.out hb)
            replace KA := zH (KA.out.to hb)
            replace KZ := zH (KZ.out.to hb)
            clear hb
            go_wp2_with fail
            refine ⟨hbd.out, ?_⟩
            clear hbd
            refine WT_one 10 rfl (by kernel_rfl) ?_
            unfold stepT
            have hne1 : BA ≠ BZ := by first | exact hne | exact fun e => hne e.symm
            have hne2 : BZ ≠ BA := fun e => hne1 e.symm
            obtain ⟨-, ka, fa⟩ := KA.out
            go_wp2_with fail
            clear ka fa
            refine ⟨((Below.refl _ _).setCell (p := ⟨_, 0, none⟩) BAN.out _).setCell (p := ⟨_, 1, none⟩) BAN.out _, ?_⟩
            refine WT_one 11 rfl (by kernel_rfl) ?_
            unfold stepT
            have KZ2 := zH ((KZ.out.other (p := ⟨BA, 0, none⟩) (by simpa using hne1) (.int .i64 p1)).other (p := ⟨BA, 1, none⟩) (by simpa using hne1) (.int .i64 p2))
            obtain ⟨-, kz, fz⟩ := KZ2.out
            go_wp2_with fail
            clear kz fz
            refine ⟨((Below.refl _ _).setCell (p := ⟨_, 0, none⟩) BZN.out _).setCell (p := ⟨_, 1, none⟩) BZN.out _, ?_⟩
            refine WT_done (by kernel_rfl) ?_
            have KA2 := ((KA.out.set 0 (.int .i64 p1)).set 1 (.int .i64 p2))
            go_wp2_with fail
            go_meet
            case rel => exact ⟨BA, BZ, rfl, rfl, zH ((KA2.other (p := ⟨BZ, 0, none⟩) (by simpa using hne2) _).other (p := ⟨BZ, 1, none⟩) (by simpa using hne2) _), zH ((KZ2.out.set 0 (.int .i64 q1)).set 1 (.int .i64 q2)), zH ((((T.out.setCell (p := ⟨BA, 0, none⟩) BAN.out _).setCell (p := ⟨BA, 1, none⟩) BAN.out _).setCell (p := ⟨BZ, 0, none⟩) BZN.out _).setCell (p := ⟨BZ, 1, none⟩) BZN.out _)⟩
        · unfold stepT
          go_wp2_with fail
          obtain ⟨u2, hwA⟩ : ∃ wA, u1.alloc (.cells #[.int .i64 0, .int .i64 0] 160) = wA := ⟨_, rfl⟩
          rw [hwA]
          have hb : Below u1.heap.size u1 u2 := by subst hwA; exact bAlloc (bSelf _) _
          have hne : BZ ≠ u1.heap.size := by have := KZ.out.1; omega
          replace KZ := zH (KZ.out.to hb)
          have KA : Hid (Blk u2 u1.heap.size #[.int .i64 0, .int .i64 0]) := by subst hwA; exact Blk.new _ _ _
          clear hwA
          obtain ⟨BA, hBA⟩ : ∃ N, u1.heap.size = N := ⟨_, rfl⟩
          have BAN : Hid (wo.heap.size ≤ BA) := zH (by rw [← hBA]; exact T.out.size)
          rw [hBA] at KA hne ⊢
          have hbd := zH (hb.mono T.out.size)
          replace T := zH (bThen T.out hb)
          refine ⟨hbd.out, ?_⟩
          clear hbd hb hBA
          refine WT_one 3 rfl (by kernel_rfl) ?_
          unfold stepT
          go_wp2_with fail
          refine (HS1.out _).mono ?_
          rintro e u3 ⟨rfl, hb⟩
          have hbd := zH (hb.mono T.out.size)
          replace T := zH (bThen T.out hb)
          replace KA := zH (KA.out.to hb)
          replace KZ := zH (KZ.out.to hb)
          clear hb
          go_wp2_with fail
          refine ⟨hbd.out, ?_⟩
          clear hbd
          refine WT_one 7 rfl (by kernel_rfl) ?_
          unfold stepT
          go_wp2_with fail
          refine (HS2.out _).mono ?_
          rintro e u4 ⟨rfl, hb⟩
          have hbd := zH (hb.mono T.out.size)
          replace T := zH (bThen T.out hb)
          replace KA := zH (KA.out.to hb)
          replace KZ := zH (KZ.out.to hb)
          clear hb
          go_wp2_with fail
          refine ⟨hbd.out, ?_⟩
          clear hbd
          refine WT_one 10 rfl (by kernel_rfl) ?_
          unfold stepT
          have hne1 : BA ≠ BZ := by first | exact hne | exact fun e => hne e.symm
          have hne2 : BZ ≠ BA := fun e => hne1 e.symm
          obtain ⟨-, ka, fa⟩ := KA.out
          go_wp2_with fail
          clear ka fa
          refine ⟨((Below.refl _ _).setCell (p := ⟨_, 0, none⟩) BAN.out _).setCell (p := ⟨_, 1, none⟩) BAN.out _, ?_⟩
          refine WT_one 11 rfl (by kernel_rfl) ?_
          unfold stepT
          have KZ2 := zH ((KZ.out.other (p := ⟨BA, 0, none⟩) (by simpa using hne1) (.int .i64 p1)).other (p := ⟨BA, 1, none⟩) (by simpa using hne1) (.int .i64 p2))
          obtain ⟨-, kz, fz⟩ := KZ2.out
          go_wp2_with fail
          clear kz fz
          refine ⟨((Below.refl _ _).setCell (p := ⟨_, 0, none⟩) BZN.out _).setCell (p := ⟨_, 1, none⟩) BZN.out _, ?_⟩
          refine WT_done (by kernel_rfl) ?_
          have KA2 := ((KA.out.set 0 (.int .i64 p1)).set 1 (.int .i64 p2))
          go_wp2_with fail
          go_meet
          case rel => exact ⟨BA, BZ, rfl, rfl, zH ((KA2.other (p := ⟨BZ, 0, none⟩) (by simpa using hne2) _).other (p := ⟨BZ, 1, none⟩) (by simpa using hne2) _), zH ((KZ2.out.set 0 (.int .i64 q1)).set 1 (.int .i64 q2)), zH ((((T.out.setCell (p := ⟨BA, 0, none⟩) BAN.out _).setCell (p := ⟨BA, 1, none⟩) BAN.out _).setCell (p := ⟨BZ, 0, none⟩) BZN.out _).setCell (p := ⟨BZ, 1, none⟩) BZN.out _)⟩
    obtain ⟨wp, hwp⟩ : ∃ wp, wp = wc := ⟨_, rfl⟩
    subst hwp
    obtain ⟨BA, BZ, rfl, rfl, KA, KZ, HWC⟩ := hcut
    replace K5 := zH (K5.out.to HWC.out)
    replace HB := zH (bThen HB.out HWC.out)
    clear HWC K3 K4 HS1 HS2
    obtain ⟨-, k5, -⟩ := K5.out
    have k5' : ∀ (o1 : Obj) (o : Nat), (wp.alloc o1).cell? ⟨w.heap.size + 1 + 1, o, none⟩ = #[Value.int .i64 lo, .int .i64 hi][o]? := fun o1 => (K5.out.alloc o1).2.1
    have kz : ∀ (o1 : Obj) (o : Nat), (wp.alloc o1).cell? ⟨BZ, o, none⟩ = #[Value.int .i64 q1, .int .i64 q2][o]? := fun o1 => (KZ.out.alloc o1).2.1
    go_wp2_with fail
    clear k5 k5' kz
    obtain ⟨W2, hW2⟩ : ∃ W2, wp.alloc (.cells #[.int .i64 hi, .int .i64 1] 160) = W2 := ⟨_, rfl⟩
    rw [hW2]
    have hb : Below wp.heap.size wp W2 := by subst hW2; exact bAlloc (bSelf _) _
    have K12 : Hid (Blk W2 wp.heap.size #[.int .i64 hi, .int .i64 1]) := by subst hW2; exact zH (Blk.new _ _ _)
    replace KA := zH (KA.out.to hb)
    replace KZ := zH (KZ.out.to hb)
    replace K5 := zH (K5.out.to hb)
    replace HB := zH (bThen HB.out hb)
    clear hb hW2
    refine (HL1.out _).mono ?_
    rintro e w2 ⟨rfl, hb⟩
    replace K12 := zH (K12.out.to hb)
    replace KA := zH (KA.out.to hb)
    replace KZ := zH (KZ.out.to hb)
    replace K5 := zH (K5.out.to hb)
    replace HB := zH (bThen HB.out hb)
    clear hb
    cases c1 with
    | true =>
      go_wp2_with fail
      refine bodyPost_ret (results_tmp2 rfl _ _ _) rfl ?_
      exact ⟨by rw [HV.out]; rfl, HB.out⟩
    | false =>
      obtain ⟨-, k12, -⟩ := K12.out
      obtain ⟨-, ka, -⟩ := KA.out
      go_wp2_with fail
      refine (HL2.out _).mono ?_
      rintro e w3 ⟨rfl, hb⟩
      replace K12 := zH (K12.out.to hb)
      replace KA := zH (KA.out.to hb)
      replace KZ := zH (KZ.out.to hb)
      replace K5 := zH (K5.out.to hb)
      replace HB := zH (bThen HB.out hb)
      clear hb ka k12
      cases c2 with
      | true =>
        go_wp2_with fail
        refine bodyPost_ret (results_tmp2 rfl _ _ _) rfl ?_
        exact ⟨by rw [HV.out]; rfl, HB.out⟩
      | false =>
        obtain ⟨-, k5, -⟩ := K5.out
        obtain ⟨-, ka, -⟩ := KA.out
        go_wp2_with fail
        refine (HL3.out _).mono ?_
        rintro e w4 ⟨rfl, hb⟩
        replace K12 := zH (K12.out.to hb)
        replace KZ := zH (KZ.out.to hb)
        replace HB := zH (bThen HB.out hb)
        clear hb ka k5
        cases c3 with
        | true =>
          go_wp2_with fail
          refine bodyPost_ret (results_tmp2 rfl _ _ _) rfl ?_
          exact ⟨by rw [HV.out]; rfl, HB.out⟩
        | false =>
          obtain ⟨-, k12, -⟩ := K12.out
          obtain ⟨-, kz, -⟩ := KZ.out
          go_wp2_with fail
          refine (HL4.out _).mono ?_
          rintro e w5 ⟨rfl, hb⟩
          replace HB := zH (bThen HB.out hb)
          clear hb kz k12
          cases c4 with
          | true =>
            go_wp2_with fail
            refine bodyPost_ret (results_tmp2 rfl _ _ _) rfl ?_
            exact ⟨by rw [HV.out]; rfl, HB.out⟩
          | false =>
            go_wp2_with fail
            refine bodyPost_ret (results_tmp2 rfl _ _ _) rfl ?_
            exact ⟨by rw [HV.out]; rfl, HB.out⟩
  · have h0' : (ve != 0) = true := by simpa using h0
    have hO := HO.out
    rw [if_neg h0] at hO
    subst hO
    clear h0 HO HS1 HS2 HQ1 HQ2 HBD
    go_wp2_with fail
    refine bodyPost_ret (results_tmp2 rfl _ _ _) rfl ?_
    exact ⟨rfl, HB.out⟩
end
end Go.Proofs.YtjfedpblkejmkaaGreat
