/-
  Texts of this claim, in their build order: OT3 OP15 OL1.
-/
import Derived.Test.YtbpcapcgbnbknaaGreatOne46
import Derived.Test.YtbpcapcgbnbknaaGreatOne32
import Derived.Test.YtbpcapcgbnbknaaGreatOne29
import Derived.Test.YtbpcapcgbnbknaaGreatOne26
import Derived.Test.YtbpcapcgbnbknaaGreatOne21
import Derived.Test.YtbpcapcgbnbknaaGreatOne3
import Derived.Test.YtbpcapcgbnbknaaGreatOne5
import Derived.Test.YtbpcapcgbnbknaaGreatOne0

namespace Go.Proofs.YtbpcapcgbnbknaaGreat
section
open Go.RowKit

set_option maxHeartbeats 1600000 in
set_option maxRecDepth 100000 in
theorem isEnd_any (l : List OSt) (s : OSt) (a : Option Addr) (cap : Nat) (w : World) (hlen : l.length ≤ 100000) (hr : Reads w a (l.length * 2) (osts l)) :
    Calls Tryz.prog 36 #[.slice a l.length cap, .agg #[.int .i64 s.1, .bool s.2]] w fun e w' => e = .returned (.bool (inS l s)) ∧ Below w.heap.size w w' := by
  have HA := zH hr
  have HY := zH (fun k (hk : k < l.length) => inSA_at hk)
  have HNO := zH (fun h => inSA_no (l := l) (s := s) h)
  obtain ⟨rb, hrb⟩ : ∃ b, inS l s = b := ⟨_, rfl⟩
  have HRB := zH hrb
  rw [hrb] at HNO ⊢
  obtain ⟨n, hn⟩ : ∃ n, l.length = n := ⟨_, rfl⟩
  rw [hn] at HA HY HNO hlen ⊢
  obtain ⟨s1, s2⟩ := s
  dsimp only
  clear hr hn hrb
  go_enter Tryz.func36, Tryz.ntmps36
  go_wp2_with fail
  obtain ⟨W, hW⟩ : ∃ W, w.alloc (.cells #[.int .i64 s1, .bool s2] 53) = W := ⟨_, rfl⟩
  rw [hW]
  have K3 : Hid (Blk W w.heap.size #[.int .i64 s1, .bool s2]) := by subst hW; exact zH (Blk.new _ _ _)
  have HB : Hid (Below w.heap.size w W) := by subst hW; exact zH (bAlloc (bSelf w) _)
  replace HA := zH (HA.out.to HB.out)
  clear hW
  go_loopw [5] (fun i wr => ∃ k : Nat, k ≤ n ∧ i = .int .i64 k ∧ Hid (∀ j, j < k → sg l j ≠ (s1, s2)) ∧ Hid (Below W.heap.size W wr)) (fun i _ => n - (intOf i).toNat)
  case atStart => exact ⟨0, Nat.zero_le _, rfl, zH (by intro j h; omega), zH (bSelf W)⟩
  case round =>
    obtain ⟨k, hk, rfl, hp, hB⟩ := hrel
    by_cases hlt : k < n
    · obtain ⟨ba, oa, rfl, hba, hca⟩ := (HA.out.to hB.out).at (k := k * 2) (by omega)
      obtain ⟨⟨n1, d1⟩, hz⟩ : ∃ q, sg l k = q := ⟨_, rfl⟩
      have h1 : Hid (wr.cell? ⟨ba, oa + k * 2, none⟩ = some (.int .i64 n1)) := zH (by rw [hca _ (by omega), osts0, hz])
      have h2 : Hid (wr.cell? ⟨ba, oa + k * 2 + 1, none⟩ = some (.bool d1)) := zH (by rw [Nat.add_assoc, hca _ (by omega), osts1, hz])
      have HZ := zH hz
      have hyk := HY.out k hlt
      rw [hz] at hyk
      have HYK := zH hyk
      clear hca hz hyk HY
      by_cases he : (n1, d1) = (s1, s2)
      · cases he
        obtain rfl : rb = true := by rw [← HRB.out]; exact HYK.out
        go_wp2_with fail
        refine wp_region_quiet_all (fun w' => Below (World.heap wr).size (wr) w') (by kernel_rfl) (by kernel_rfl) (Below.refl _ _).drew ?_
        refine WQ.out ?_
        repeat (first | (refine WQ_no (by rfl) ?_; (simp only [Act.put, zzT, zzO, zzS])) | (refine WQ_yes (by rfl) ?_; apply Exists.intro; refine ⟨fun w1 hb1 => ?_, ?_⟩; (focus (((have k1 := (hb1.cell (p := ⟨ba, oa + k * 2, none⟩) hba).trans h1.out; have k2 := (hb1.cell (p := ⟨ba, oa + k * 2 + 1, none⟩) hba).trans h2.out; obtain ⟨-, k3, -⟩ := (K3.out.to hB.out).to hb1); have hb1 := zH hb1; go_simp); (try (go_bits; try go_simp)); (try (rw [if_pos (by omega)]; try go_simp)); (first | done | (with_reducible rfl) | exact rfl))); (simp only [Act.put, zzT, zzO, zzS])))
        refine WQ_nil ?_
        intro w1 hb1
        go_wp2_with fail
        go_ret
        exact ⟨rfl, bThen HB.out (bThen hB.out hb1)⟩
      · have HE := zH he
        have hcs : (¬ n1 = s1) ∨ (n1 = s1 ∧ ¬ d1 = s2) := by
          by_cases h : n1 = s1
          · exact .inr ⟨h, fun h2 => he (by rw [h, h2])⟩
          · exact .inl h
        clear he
        rcases hcs with hn | ⟨rfl, hn⟩
        all_goals
          go_wp2_with fail
          refine wp_region_quiet_all (fun w' => Below (World.heap wr).size (wr) w') (by kernel_rfl) (by kernel_rfl) (Below.refl _ _).drew ?_
          refine WQ.out ?_
          repeat (first | (refine WQ_no (by rfl) ?_; (simp only [Act.put, zzT, zzO, zzS])) | (refine WQ_yes (by rfl) ?_; apply Exists.intro; refine ⟨fun w1 hb1 => ?_, ?_⟩; (focus (((have k1 := (hb1.cell (p := ⟨ba, oa + k * 2, none⟩) hba).trans h1.out; have k2 := (hb1.cell (p := ⟨ba, oa + k * 2 + 1, none⟩) hba).trans h2.out; obtain ⟨-, k3, -⟩ := (K3.out.to hB.out).to hb1); have hb1 := zH hb1; go_simp); (try (go_bits; try go_simp)); (try (rw [if_pos (by omega)]; try go_simp)); (first | done | (with_reducible rfl) | exact rfl))); (simp only [Act.put, zzT, zzO, zzS])))
          refine WQ_nil ?_
          intro w1 hb1
          go_wp2_with fail
          go_roundw
          case rel =>
            refine ⟨k + 1, by omega, by go_num, zH (fun j hj => ?_), zH (bThen hB.out hb1)⟩
            by_cases h : j = k
            · subst h; rw [HZ.out]; exact HE.out
            · exact hp.out j (by omega)
          case measure => simp [intOf]; omega
    · obtain rfl : n = k := by omega
      obtain rfl : rb = false := HNO.out hp.out
      go_wp2_with fail
      go_ret
      exact ⟨rfl, bThen HB.out hB.out⟩

theorem rLessA_any (a b : OSt) (w : World) :
    Calls Tryz.prog 35 #[.agg #[.int .i64 a.1, .bool a.2], .agg #[.int .i64 b.1, .bool b.2]] w fun e w' => e = .returned (.bool (ltS a b)) ∧ Below w.heap.size w w' := by
  obtain ⟨a1, a2⟩ := a
  obtain ⟨b1, b2⟩ := b
  unfold ltS
  dsimp only
  by_cases h1 : a1 < b1
  · rw [decide_eq_true h1, Bool.true_or]
    go_enter Tryz.func35, Tryz.ntmps35
    go_wp2_with fail
    go_ret
    exact ⟨rfl, bAlloc (bAlloc (bSelf w) _) _⟩
  · rw [decide_eq_false h1, Bool.false_or]
    by_cases h2 : a1 = b1
    · subst h2
      cases a2 <;> cases b2
      all_goals
        go_enter Tryz.func35, Tryz.ntmps35
        go_wp2_with fail
        go_ret
        exact ⟨ret_bool (by simp), bAlloc (bAlloc (bSelf w) _) _⟩
    · have h3 : (a1 == b1) = false := by simpa using h2
      rw [h3, Bool.false_and, Bool.false_and]
      have h4 : b1 < a1 := by omega
      go_enter Tryz.func35, Tryz.ntmps35
      go_wp2_with fail
      go_ret
      exact ⟨rfl, bAlloc (bAlloc (bSelf w) _) _⟩
end
section
open Go.RowKit

/-- The plants of the examples. -/
def exP : Plt := ⟨[(0, 100), (10, 150), (30, 200)], 4, 150, 190⟩
def exC : List (Int × Int) := [(10, 12), (0, 2)]
end
section
set_option maxRecDepth 100000
open Go.RowKit

set_option maxHeartbeats 400000 in
theorem oWhole_any (n : Int) (w : World) : Calls Tryz.prog 72 #[.int .i64 n] w fun e w' => e = .returned (.agg #[.int .i64 n, .int .i64 1]) ∧ Below w.heap.size w w' := by
  go_enter Tryz.func72, Tryz.ntmps72
  go_upto_region 1 with (fail)
  obtain ⟨w1, hw1⟩ : ∃ w1, w.alloc (.cells #[.int .i64 0, .int .i64 0] 77) = w1 := ⟨_, rfl⟩
  rw [hw1]
  have K0 : Hid (Blk w1 w.heap.size #[.int .i64 0, .int .i64 0]) := by subst hw1; exact zH (Blk.new _ _ _)
  have HB : Hid (Below w.heap.size w w1) := by subst hw1; exact zH (bAlloc (bSelf w) _)
  clear hw1
  obtain ⟨-, k0, f0⟩ := K0.out
  go_wp2_with fail
  have F := (K0.out.set 0 (.int .i64 n)).set 1 (.int .i64 1)
  have F0 := F.2.1 0
  have F1 := F.2.1 1
  clear F k0 f0
  refine bodyPost_ret (v := .agg #[.int .i64 n, .int .i64 1]) ?_ rfl ⟨rfl, ?_⟩
  · simp [results, Tryz.results72, go_sem, F0, F1]
  · exact (HB.out.setCell (p := ⟨w.heap.size, 0, none⟩) (Nat.le_refl _) _).setCell (p := ⟨w.heap.size, 1, none⟩) (Nat.le_refl _) _

theorem Plant_any (w : World) : Calls Tryz.prog 68 #[] w fun e w' => ∃ a, e = .returned (.agg (plC exP a 3)) ∧ Reads w' a (3 * 2) (fracs exP.pts) ∧ Below w.heap.size w w' := by
  go_enter Tryz.func68, Tryz.ntmps68
  go_wp2_with fail
  obtain ⟨v1, hv1⟩ : ∃ v : Value, v = .slice (some ⟨w.heap.size + 1, 0, none⟩) 3 3 := ⟨_, rfl⟩
  rw [← hv1]
  have F := (Blk.new w #[v1, .int .i64 4, .int .i64 150, .int .i64 190] 51).alloc (.cells #[.int .i64 0, .int .i64 100, .int .i64 10, .int .i64 150, .int .i64 30, .int .i64 200] 140)
  have F0 := F.2.1 0
  have F1 := F.2.1 1
  have F2 := F.2.1 2
  have F3 := F.2.1 3
  clear F
  refine bodyPost_ret (v := .agg #[v1, .int .i64 4, .int .i64 150, .int .i64 190]) ?_ rfl ⟨_, by rw [hv1]; rfl, Reads.fresh _ _ _ _ _ 6 (by simp) (fun i hi => ?_), bAlloc (bAlloc (bSelf w) _) _⟩
  · simp [results, Tryz.results68, go_sem, F0, F1, F2, F3]
  · match i, hi with
    | 0, _ => rfl
    | 1, _ => rfl
    | 2, _ => rfl
    | 3, _ => rfl
    | 4, _ => rfl
    | 5, _ => rfl
    | n + 6, h => exact absurd h (by omega)
theorem Full_any (w : World) : Calls Tryz.prog 69 #[] w fun e w' => e = .returned (.agg #[.int .i64 30, .bool false]) ∧ Below w.heap.size w w' := by
  go_enter Tryz.func69, Tryz.ntmps69
  go_wp2_with fail
  refine bodyPost_ret (v := .agg #[.int .i64 30, .bool false]) ?_ rfl ⟨rfl, bAlloc (bSelf w) _⟩
  simp [results, Tryz.results69, go_sem]
theorem Class_any (w : World) : Calls Tryz.prog 70 #[] w fun e w' => ∃ a, e = .returned (.slice a 2 2) ∧ Reads w' a (2 * 2) (fracs exC) ∧ Below w.heap.size w w' := by
  go_enter Tryz.func70, Tryz.ntmps70
  go_wp2_with fail
  go_ret
  refine ⟨_, rfl, Reads.fresh _ _ _ _ _ 4 (by simp) (fun i hi => ?_), bAlloc (bSelf w) _⟩
  match i, hi with
  | 0, _ => rfl
  | 1, _ => rfl
  | 2, _ => rfl
  | 3, _ => rfl
  | n + 4, h => exact absurd h (by omega)
end
end Go.Proofs.YtbpcapcgbnbknaaGreat
