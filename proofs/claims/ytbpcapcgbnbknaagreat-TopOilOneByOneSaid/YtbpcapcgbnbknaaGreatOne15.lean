/-
  Texts of this claim, in their build order: W14.
-/
import Derived.Test.YtbpcapcgbnbknaaGreatOne14
import Derived.Test.YtbpcapcgbnbknaaGreatOne0

namespace Go.Proofs.YtbpcapcgbnbknaaGreat
section
open Go.RowKit

theorem RW.zero (w : World) : RW w none (.agg #[.int .i64 0, .slice none 0 0]) 0 := by
  have e : dg 0 = [] := by unfold dg; rw [show (0 : Int).natAbs = 0 from rfl, digs_zero]
  exact ⟨0, by rw [e]; rfl, by rw [e]; simp, .inl (by rw [e]; rfl)⟩

set_option maxHeartbeats 400000 in
set_option maxRecDepth 100000 in
theorem WideFloor_zero (z1 z2 : Int) (a1 a2 : Option Addr) (v1 v2 : Value) (w : World) (h1 : RW w a1 v1 z1) (h2 : RW w a2 v2 z2) (hz1 : z1 = 0) :
    Calls Tryz.prog 170 #[v1, v2] w fun e w1 => WPost [] (z1 / z2) w e w1 := by
  have hs : z1.sign = 0 := by rw [hz1]; rfl
  have hzz : z1 / z2 = 0 := by rw [hz1]; exact Int.zero_ediv z2
  rw [hzz]
  obtain ⟨c1, rfl, -, -⟩ := h1
  obtain ⟨c2, rfl, -, -⟩ := h2
  rw [hs]
  have HP : Hid (∀ (w' : World) (e : Ending), Below w.heap.size w w' → e = .returned (.agg #[.int .i64 0, .slice none 0 0]) → WPost [] 0 w e w') := zH (fun w' e hb he => ⟨none, _, he, RW.zero w', hb, fun P _ _ _ p hp => by cases hp⟩)
  obtain ⟨s2, hs2⟩ : ∃ s, z2.sign = s := ⟨_, rfl⟩
  obtain ⟨n1, hn1⟩ : ∃ n, (dg z1).length = n := ⟨_, rfl⟩
  obtain ⟨n2, hn2⟩ : ∃ n, (dg z2).length = n := ⟨_, rfl⟩
  rw [hs2, hn1, hn2]
  clear hs hzz hs2 hn1 hn2 hz1
  go_enter Tryz.func170, Tryz.ntmps170
  go_upto_region 1 with (fail)
  obtain ⟨w3, hw3⟩ : ∃ w3, ((w.alloc (.cells #[.int .i64 0, .slice a1 n1 c1] 63)).alloc (.cells #[.int .i64 s2, .slice a2 n2 c2] 63)).alloc (.cells #[.int .i64 0, .slice none 0 0] 63) = w3 := ⟨_, rfl⟩
  rw [hw3]
  have K0 : Hid (Blk w3 w.heap.size #[.int .i64 0, .slice a1 n1 c1]) := by subst hw3; exact zH (((Blk.new _ _ _).alloc _).alloc _)
  have K2 : Hid (Blk w3 (w.heap.size + 2) #[.int .i64 0, .slice none 0 0]) := by subst hw3; exact zH (Blk.newAt _ _ _ (by simp))
  have HB : Hid (Below w.heap.size w w3) := by subst hw3; exact zH (bAlloc (bAlloc (bAlloc (bSelf w) _) _) _)
  clear hw3
  obtain ⟨-, k0, -⟩ := K0.out
  obtain ⟨h2, k2, f2⟩ := K2.out
  go_wp2_with fail
  clear k0 k2 f2
  have F := ((K2.out.set 0 (.int .i64 0)).set 1 (.slice none 0 0)).2.1
  have F0 := F 0; have F1 := F 1
  clear F
  have hF := (HB.out.setCell (p := ⟨w.heap.size + 2, 0, none⟩) (by dsimp only; omega) (.int .i64 0)).setCell (p := ⟨w.heap.size + 2, 1, none⟩) (by dsimp only; omega) (.slice none 0 0)
  refine bodyPost_ret (v := .agg #[.int .i64 0, .slice none 0 0]) ?_ rfl (HP.out _ _ hF rfl)
  simp [results, Tryz.results170, go_sem, F0, F1]

theorem WideFloor_any (z1 z2 : Int) (a1 a2 : Option Addr) (v1 v2 : Value) (w : World) (h1 : RW w a1 v1 z1) (h2 : RW w a2 v2 z2) (hl1 : (dg z1).length ≤ 150) (hl2 : (dg z2).length ≤ 150) (hz2 : 0 < z2) :
    Calls Tryz.prog 170 #[v1, v2] w fun e w1 => WPost [] (z1 / z2) w e w1 := by
  by_cases hz1 : z1 = 0
  · exact WideFloor_zero z1 z2 a1 a2 v1 v2 w h1 h2 hz1
  · exact WideFloor_some z1 z2 a1 a2 v1 v2 w h1 h2 hl1 hl2 hz1 hz2
end
end Go.Proofs.YtbpcapcgbnbknaaGreat
