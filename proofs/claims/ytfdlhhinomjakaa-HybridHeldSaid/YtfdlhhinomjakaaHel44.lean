/-
  Texts of this claim, in their build order: BS10.
-/
import Derived.Test.YtfdlhhinomjakaaHel43
import Derived.Test.YtfdlhhinomjakaaHel0

namespace Go.Proofs.Ytfdlhhinomjakaa
section
open Go.RowKit

/-- A test holds with a delay. -/
def HldD (x : HT) (k : Nat) : Prop := HldQ (nxH { x with dl := (k : Int) }) (rngL (x.lo, x.hi)) [0, 0, 0, 0]
/-- The answer of GreatestDelay: k delays hold, the next one does not. -/
def GdPost (x : HT) (te : Int) (w : World) (e : Ending) (w' : World) : Prop := Below w.heap.size w w' ∧
  ((te ≠ 0 ∧ e = .returned (.tuple #[.int .i64 0, .int .i64 te])) ∨
    (te = 0 ∧ ∃ k : Nat, k ≤ 3 ∧ e = .returned (.tuple #[.int .i64 ((k - 1 : Nat) : Int), .int .i64 (unl (decide (0 < k)) 12)]) ∧ (∀ j, j < k → HldD x j) ∧ (k < 3 → ¬ HldD x k)))
theorem ok_dl {x : HT} (h : x.ok) {k : Nat} (hk : k ≤ 2) : ({ x with dl := (k : Int) } : HT).ok :=
  ⟨h.m1, h.m2, h.d1, h.d2, h.c1, h.c2, h.s1, h.s2, by show 0 ≤ (k : Int); omega, by show (k : Int) ≤ 2; omega, h.b1, h.b2, h.lo1, h.lo2, h.hi1, h.hi2, h.ord, h.few⟩
/-- The delay that a test's box holds. -/
def dlN (b : Nat) (w : World) : Nat := (intOf ((w.cell? ⟨b, 4, none⟩).getD (.int .i64 0))).toNat
theorem dlN_blk {w : World} {b : Nat} {x : HT} {k : Nat} (h : Blk w b ({ x with dl := (k : Int) } : HT).cells) : dlN b w = k := by
  unfold dlN
  rw [h.2.1 4]
  simp [intOf]

set_option maxHeartbeats 1600000 in
set_option maxRecDepth 100000 in
theorem GreatestDelay_of (hS : SrchOK) (x : HT) (w : World) : Calls Try.prog 19 #[.agg x.cells] w fun e w' => GdPost x (testE x) w e w' := by
  have HCT := zH (fun W => CheckTest_any x W)
  have hok := @testE_zero x
  have HH := zH (fun W (k : Nat) hk hx => holds_of hS { x with dl := (k : Int) } W (ok_dl (k := k) hx hk))
  obtain ⟨te, hte⟩ : ∃ t, testE x = t := ⟨_, rfl⟩
  rw [hte] at HCT hok ⊢
  have HOK := zH hok
  clear hte hok hS
  go_enter Try.func19, Try.ntmps19
  go_wp2_with fail
  refine (HCT.out _).mono ?_
  rintro e w1 ⟨rfl, hb⟩
  have K0 := zH ((Blk.new w x.cells 25).to hb)
  have HB := zH (bThen (bAlloc (bSelf w) _) hb)
  clear hb HCT
  obtain ⟨-, k0, f0⟩ := K0.out
  by_cases h0 : te = 0
  · subst h0
    have HX := zH (HOK.out rfl)
    go_wp2_with fail
    clear k0 f0
    obtain ⟨w2, hw2⟩ : ∃ u, w1.setCell ⟨w.heap.size, 4, none⟩ (.int .i64 0) = u := ⟨_, rfl⟩
    rw [hw2]
    have K2 : Hid (Blk w2 w.heap.size ({ x with dl := ((0 : Nat) : Int) } : HT).cells) := by subst hw2; exact zH (K0.out.set 4 _)
    have HB2 : Hid (Below w.heap.size w w2) := by subst hw2; exact zH (HB.out.setCell (by simp) _)
    clear hw2 K0 HB
    go_loopw [] (fun wr => ∃ k : Nat, k ≤ 3 ∧ Hid (Blk wr w.heap.size ({ x with dl := (k : Int) } : HT).cells) ∧ Hid (∀ j, j < k → HldD x j) ∧ Hid (Below w.heap.size w wr)) (fun wr => 3 - dlN w.heap.size wr)
    case atStart => exact ⟨0, by omega, K2, zH (fun j hj => by omega), HB2⟩
    obtain ⟨k, hk, KK, HD, HBR⟩ := hrel
    clear K2 HB2
    obtain ⟨kb, kt, kf⟩ := KK.out
    by_cases h2 : k ≤ 2
    · have HL := zH (fun W => HH.out W k h2 HX.out)
      go_wp2_with fail
      refine (HL.out _).mono ?_
      rintro e w3 ⟨hb, b, rfl, hh⟩
      have KK3 := zH (KK.out.to hb)
      have HB3 := zH (bThen HBR.out hb)
      have HHb := zH hh
      clear hb hh kb kt kf
      obtain ⟨kb, kt, kf⟩ := KK3.out
      cases b with
      | true =>
        go_wp2_with fail
        go_roundw
        case rel => exact ⟨k + 1, by omega, zH (by have := KK3.out.set 4 (.int .i64 ((k : Int) + 1)); exact this), zH (fun j hj => (Nat.lt_or_eq_of_le (Nat.le_of_lt_succ hj)).elim (HD.out j) (fun e => by subst e; exact HHb.out.1 (by first | trivial | rfl))), zH (HB3.out.setCell (by simp) _)⟩
        case measure =>
          rw [dlN_blk KK.out, dlN_blk (x := x) (k := k + 1) (by have := KK3.out.set 4 (.int .i64 ((k : Int) + 1)); exact this)]
          omega
      | false =>
        go_wp2_with fail
        refine wp_region_quiet_tail 8 (fun w' => Below (World.heap w3).size (w3) w') (by kernel_rfl) (by kernel_rfl) (Below.refl _ _).drew ?_
        simp only [List.take_succ_cons, List.take_zero, List.drop_succ_cons, List.drop_zero]
        repeat (first | (refine wpQuiet_no (by rfl) ?_; (simp only [Act.put, zzT, zzO, zzS])) | (refine wpQuiet_yes (by rfl) ?_; apply Exists.intro; refine ⟨fun w1 hb1 => ?_, ?_⟩; (focus (((obtain ⟨-, kt, kf⟩ := KK3.out.to hb1); have hb1 := zH hb1; go_simp); (try (go_bits; try go_simp)); (first | done | ((go_at_call 33; refine (unless_any _ _ _).mono ?_; rintro e w' ⟨rfl, rfl⟩; exact ⟨rfl, hb1.out⟩)) | (with_reducible rfl) | exact rfl))); (simp only [Act.put, zzT, zzO, zzS])))
        refine wpQuiet_nil ?_
        intro w1 hb1
        have hb1 := zH hb1
        clear kt kf
        go_wp2_with fail
        go_ret2
        exact ⟨bThen HB3.out hb1.out, .inr ⟨rfl, k, hk, by rw [show max 0 ((k : Int) - 1) = ((k - 1 : Nat) : Int) by omega]; rfl, HD.out, fun _ h => by have := HHb.out.2 h; first | exact this | cases this⟩⟩
    · obtain rfl : k = 3 := by omega
      go_wp2_with fail
      refine wp_region_quiet_tail 8 (fun w' => Below (World.heap wr).size (wr) w') (by kernel_rfl) (by kernel_rfl) (Below.refl _ _).drew ?_
      simp only [List.take_succ_cons, List.take_zero, List.drop_succ_cons, List.drop_zero]
      repeat (first | (refine wpQuiet_no (by rfl) ?_; (simp only [Act.put, zzT, zzO, zzS])) | (refine wpQuiet_yes (by rfl) ?_; apply Exists.intro; refine ⟨fun w1 hb1 => ?_, ?_⟩; (focus (((obtain ⟨-, kt, kf⟩ := KK.out.to hb1); have hb1 := zH hb1; go_simp); (try (go_bits; try go_simp)); (first | done | ((go_at_call 33; refine (unless_any _ _ _).mono ?_; rintro e w' ⟨rfl, rfl⟩; exact ⟨rfl, hb1.out⟩)) | (with_reducible rfl) | exact rfl))); (simp only [Act.put, zzT, zzO, zzS])))
      refine wpQuiet_nil ?_
      intro w1 hb1
      have hb1 := zH hb1
      clear kt kf
      go_wp2_with fail
      go_ret2
      exact ⟨bThen HBR.out hb1.out, .inr ⟨rfl, 3, by omega, rfl, HD.out, fun h => by omega⟩⟩
  · go_wp2_with fail
    go_ret2
    exact ⟨HB.out, .inl ⟨h0, rfl⟩⟩
end
end Go.Proofs.Ytfdlhhinomjakaa
