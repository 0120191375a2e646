/-
  Contracts: a state out of a list, and what is asked of a state.
-/
import Derived.Test.YtjieojkfpoiabaaJ2
namespace Go.Proofs.Ytjieojkfpoiabaa
open Go.RowKit

set_option maxHeartbeats 400000 in
theorem stateOf_2 (z0 z1 : Int) (a : Option Addr) (cap : Nat) (w : World) (hr : Reads w a 2 (ints [z0, z1])) :
    Calls Try.prog 94 #[.slice a 2 cap] w fun e w' => e = .returned (.agg #[.int .i64 z0, .int .i64 z1, .int .i64 0, .int .i64 0]) ∧ Below w.heap.size w w' := by
  obtain ⟨b, off, rfl, hb, hc⟩ := hr.at (k := 0) (by omega)
  go_enter Try.func94, Try.ntmps94
  go_upto_region 2 with (fail)
  obtain ⟨w1, hw1⟩ : ∃ w1, (w.alloc (.cells #[.int .i64 0, .int .i64 0, .int .i64 0, .int .i64 0] 124)).alloc (.cells #[.int .i64 0, .int .i64 0, .int .i64 0, .int .i64 0] 124) = w1 := ⟨_, rfl⟩
  rw [hw1]
  have HB : Hid (Below w.heap.size w w1) := by subst hw1; exact Lib.hid (bAlloc (bAlloc (bSelf w) _) _)
  have K0 : Hid (Blk w1 w.heap.size #[.int .i64 0, .int .i64 0, .int .i64 0, .int .i64 0]) := by subst hw1; exact Lib.hid ((Blk.new w _ _).alloc _)
  have K1 : Hid (Blk w1 (w.heap.size + 1) #[.int .i64 0, .int .i64 0, .int .i64 0, .int .i64 0]) := by subst hw1; exact Lib.hid (Blk.newAt _ _ _ (by simp))
  have hc1 : Hid (∀ j, j < 2 → w1.cell? ⟨b, off + j, none⟩ = some (ints [z0, z1] j)) := Lib.hid (fun j hj => by rw [← hc j hj]; exact HB.out.cell (p := ⟨b, off + j, none⟩) hb)
  clear hw1 hc
  have hcp := fun ty => run_copy_cells (P := Try.prog) w1 26 26 ty 3 (w.heap.size + 1) 0 4 4 ⟨b, off, none⟩ 2 cap [.int .i64 z0, .int .i64 z1] (by kernel_rfl) (by kernel_rfl) (by rfl)
    (fun j v hj => by
      have hjk : j < 2 := (List.getElem?_eq_some_iff.1 hj).1
      have e : (⟨b, off, none⟩ : Addr).add j = ⟨b, off + j, none⟩ := by unfold Addr.add; split <;> simp_all
      rw [e, hc1.out j hjk, ← hj]
      match j, hjk with
      | 0, _ => rfl
      | 1, _ => rfl)
    (fun j hj => by
      rw [K1.out.2.1 (0 + j)]
      match j, (show j < 2 from hj) with
      | 0, _ => rfl
      | 1, _ => rfl)
    (fun j _ => K1.out.2.2 _)
    (fun v hv => by simp at hv; rcases hv with rfl | rfl <;> rfl)
  go_upto_region 3 with (fail)
  clear hcp
  obtain ⟨w2, hw2⟩ : ∃ w2, w1.setCells (w.heap.size + 1) 0 [.int .i64 z0, .int .i64 z1] = w2 := ⟨_, rfl⟩
  rw [hw2]
  have K2 : Hid (Blk w2 (w.heap.size + 1) #[.int .i64 z0, .int .i64 z1, .int .i64 0, .int .i64 0]) := by subst hw2; exact Lib.hid (((K1.out.set 0 (.int .i64 z0)).set 1 (.int .i64 z1)))
  have K3 : Hid (Blk w2 w.heap.size #[.int .i64 0, .int .i64 0, .int .i64 0, .int .i64 0]) := by subst hw2; exact Lib.hid (((K0.out.other (p := ⟨w.heap.size + 1, 0, none⟩) (by dsimp only; omega) (.int .i64 z0)).other (p := ⟨w.heap.size + 1, 1, none⟩) (by dsimp only; omega) (.int .i64 z1)))
  have HB2 : Hid (Below w.heap.size w w2) := by subst hw2; exact Lib.hid (((HB.out.setCell (p := ⟨w.heap.size + 1, 0, none⟩) (by dsimp only; omega) (.int .i64 z0)).setCell (p := ⟨w.heap.size + 1, 1, none⟩) (by dsimp only; omega) (.int .i64 z1)))
  clear hw2 K0 K1 HB
  obtain ⟨h2, k2, f2⟩ := K2.out
  obtain ⟨h3, k3, f3⟩ := K3.out
  go_wp2_with fail
  clear k2 f2 k3 f3
  have F := ((((K3.out.set 0 (.int .i64 z0)).set 1 (.int .i64 z1)).set 2 (.int .i64 0)).set 3 (.int .i64 0)).2.1
  have F0 := F 0; have F1 := F 1; have F2 := F 2; have F3 := F 3
  clear F
  refine bodyPost_ret (v := .agg #[.int .i64 z0, .int .i64 z1, .int .i64 0, .int .i64 0]) ?_ rfl ⟨rfl, ?_⟩
  · simp [results, Try.results94, go_sem, F0, F1, F2, F3]
  · exact ((((HB2.out.setCell (p := ⟨w.heap.size, 0, none⟩) (Nat.le_refl _) _).setCell (p := ⟨w.heap.size, 1, none⟩) (Nat.le_refl _) _).setCell (p := ⟨w.heap.size, 2, none⟩) (Nat.le_refl _) _).setCell (p := ⟨w.heap.size, 3, none⟩) (Nat.le_refl _) _)

set_option maxHeartbeats 400000 in
theorem stateOf_3 (z0 z1 z2 : Int) (a : Option Addr) (cap : Nat) (w : World) (hr : Reads w a 3 (ints [z0, z1, z2])) :
    Calls Try.prog 94 #[.slice a 3 cap] w fun e w' => e = .returned (.agg #[.int .i64 z0, .int .i64 z1, .int .i64 z2, .int .i64 0]) ∧ Below w.heap.size w w' := by
  obtain ⟨b, off, rfl, hb, hc⟩ := hr.at (k := 0) (by omega)
  go_enter Try.func94, Try.ntmps94
  go_upto_region 2 with (fail)
  obtain ⟨w1, hw1⟩ : ∃ w1, (w.alloc (.cells #[.int .i64 0, .int .i64 0, .int .i64 0, .int .i64 0] 124)).alloc (.cells #[.int .i64 0, .int .i64 0, .int .i64 0, .int .i64 0] 124) = w1 := ⟨_, rfl⟩
  rw [hw1]
  have HB : Hid (Below w.heap.size w w1) := by subst hw1; exact Lib.hid (bAlloc (bAlloc (bSelf w) _) _)
  have K0 : Hid (Blk w1 w.heap.size #[.int .i64 0, .int .i64 0, .int .i64 0, .int .i64 0]) := by subst hw1; exact Lib.hid ((Blk.new w _ _).alloc _)
  have K1 : Hid (Blk w1 (w.heap.size + 1) #[.int .i64 0, .int .i64 0, .int .i64 0, .int .i64 0]) := by subst hw1; exact Lib.hid (Blk.newAt _ _ _ (by simp))
  have hc1 : Hid (∀ j, j < 3 → w1.cell? ⟨b, off + j, none⟩ = some (ints [z0, z1, z2] j)) := Lib.hid (fun j hj => by rw [← hc j hj]; exact HB.out.cell (p := ⟨b, off + j, none⟩) hb)
  clear hw1 hc
  have hcp := fun ty => run_copy_cells (P := Try.prog) w1 26 26 ty 3 (w.heap.size + 1) 0 4 4 ⟨b, off, none⟩ 3 cap [.int .i64 z0, .int .i64 z1, .int .i64 z2] (by kernel_rfl) (by kernel_rfl) (by rfl)
    (fun j v hj => by
      have hjk : j < 3 := (List.getElem?_eq_some_iff.1 hj).1
      have e : (⟨b, off, none⟩ : Addr).add j = ⟨b, off + j, none⟩ := by unfold Addr.add; split <;> simp_all
      rw [e, hc1.out j hjk, ← hj]
      match j, hjk with
      | 0, _ => rfl
      | 1, _ => rfl
      | 2, _ => rfl)
    (fun j hj => by
      rw [K1.out.2.1 (0 + j)]
      match j, (show j < 3 from hj) with
      | 0, _ => rfl
      | 1, _ => rfl
      | 2, _ => rfl)
    (fun j _ => K1.out.2.2 _)
    (fun v hv => by simp at hv; rcases hv with rfl | rfl | rfl <;> rfl)
  go_upto_region 3 with (fail)
  clear hcp
  obtain ⟨w2, hw2⟩ : ∃ w2, w1.setCells (w.heap.size + 1) 0 [.int .i64 z0, .int .i64 z1, .int .i64 z2] = w2 := ⟨_, rfl⟩
  rw [hw2]
  have K2 : Hid (Blk w2 (w.heap.size + 1) #[.int .i64 z0, .int .i64 z1, .int .i64 z2, .int .i64 0]) := by subst hw2; exact Lib.hid ((((K1.out.set 0 (.int .i64 z0)).set 1 (.int .i64 z1)).set 2 (.int .i64 z2)))
  have K3 : Hid (Blk w2 w.heap.size #[.int .i64 0, .int .i64 0, .int .i64 0, .int .i64 0]) := by subst hw2; exact Lib.hid ((((K0.out.other (p := ⟨w.heap.size + 1, 0, none⟩) (by dsimp only; omega) (.int .i64 z0)).other (p := ⟨w.heap.size + 1, 1, none⟩) (by dsimp only; omega) (.int .i64 z1)).other (p := ⟨w.heap.size + 1, 2, none⟩) (by dsimp only; omega) (.int .i64 z2)))
  have HB2 : Hid (Below w.heap.size w w2) := by subst hw2; exact Lib.hid ((((HB.out.setCell (p := ⟨w.heap.size + 1, 0, none⟩) (by dsimp only; omega) (.int .i64 z0)).setCell (p := ⟨w.heap.size + 1, 1, none⟩) (by dsimp only; omega) (.int .i64 z1)).setCell (p := ⟨w.heap.size + 1, 2, none⟩) (by dsimp only; omega) (.int .i64 z2)))
  clear hw2 K0 K1 HB
  obtain ⟨h2, k2, f2⟩ := K2.out
  obtain ⟨h3, k3, f3⟩ := K3.out
  go_wp2_with fail
  clear k2 f2 k3 f3
  have F := ((((K3.out.set 0 (.int .i64 z0)).set 1 (.int .i64 z1)).set 2 (.int .i64 z2)).set 3 (.int .i64 0)).2.1
  have F0 := F 0; have F1 := F 1; have F2 := F 2; have F3 := F 3
  clear F
  refine bodyPost_ret (v := .agg #[.int .i64 z0, .int .i64 z1, .int .i64 z2, .int .i64 0]) ?_ rfl ⟨rfl, ?_⟩
  · simp [results, Try.results94, go_sem, F0, F1, F2, F3]
  · exact ((((HB2.out.setCell (p := ⟨w.heap.size, 0, none⟩) (Nat.le_refl _) _).setCell (p := ⟨w.heap.size, 1, none⟩) (Nat.le_refl _) _).setCell (p := ⟨w.heap.size, 2, none⟩) (Nat.le_refl _) _).setCell (p := ⟨w.heap.size, 3, none⟩) (Nat.le_refl _) _)

set_option maxHeartbeats 400000 in
theorem stateOf_4 (z0 z1 z2 z3 : Int) (a : Option Addr) (cap : Nat) (w : World) (hr : Reads w a 4 (ints [z0, z1, z2, z3])) :
    Calls Try.prog 94 #[.slice a 4 cap] w fun e w' => e = .returned (.agg #[.int .i64 z0, .int .i64 z1, .int .i64 z2, .int .i64 z3]) ∧ Below w.heap.size w w' := by
  obtain ⟨b, off, rfl, hb, hc⟩ := hr.at (k := 0) (by omega)
  go_enter Try.func94, Try.ntmps94
  go_upto_region 2 with (fail)
  obtain ⟨w1, hw1⟩ : ∃ w1, (w.alloc (.cells #[.int .i64 0, .int .i64 0, .int .i64 0, .int .i64 0] 124)).alloc (.cells #[.int .i64 0, .int .i64 0, .int .i64 0, .int .i64 0] 124) = w1 := ⟨_, rfl⟩
  rw [hw1]
  have HB : Hid (Below w.heap.size w w1) := by subst hw1; exact Lib.hid (bAlloc (bAlloc (bSelf w) _) _)
  have K0 : Hid (Blk w1 w.heap.size #[.int .i64 0, .int .i64 0, .int .i64 0, .int .i64 0]) := by subst hw1; exact Lib.hid ((Blk.new w _ _).alloc _)
  have K1 : Hid (Blk w1 (w.heap.size + 1) #[.int .i64 0, .int .i64 0, .int .i64 0, .int .i64 0]) := by subst hw1; exact Lib.hid (Blk.newAt _ _ _ (by simp))
  have hc1 : Hid (∀ j, j < 4 → w1.cell? ⟨b, off + j, none⟩ = some (ints [z0, z1, z2, z3] j)) := Lib.hid (fun j hj => by rw [← hc j hj]; exact HB.out.cell (p := ⟨b, off + j, none⟩) hb)
  clear hw1 hc
  have hcp := fun ty => run_copy_cells (P := Try.prog) w1 26 26 ty 3 (w.heap.size + 1) 0 4 4 ⟨b, off, none⟩ 4 cap [.int .i64 z0, .int .i64 z1, .int .i64 z2, .int .i64 z3] (by kernel_rfl) (by kernel_rfl) (by rfl)
    (fun j v hj => by
      have hjk : j < 4 := (List.getElem?_eq_some_iff.1 hj).1
      have e : (⟨b, off, none⟩ : Addr).add j = ⟨b, off + j, none⟩ := by unfold Addr.add; split <;> simp_all
      rw [e, hc1.out j hjk, ← hj]
      match j, hjk with
      | 0, _ => rfl
      | 1, _ => rfl
      | 2, _ => rfl
      | 3, _ => rfl)
    (fun j hj => by
      rw [K1.out.2.1 (0 + j)]
      match j, (show j < 4 from hj) with
      | 0, _ => rfl
      | 1, _ => rfl
      | 2, _ => rfl
      | 3, _ => rfl)
    (fun j _ => K1.out.2.2 _)
    (fun v hv => by simp at hv; rcases hv with rfl | rfl | rfl | rfl <;> rfl)
  go_upto_region 3 with (fail)
  clear hcp
  obtain ⟨w2, hw2⟩ : ∃ w2, w1.setCells (w.heap.size + 1) 0 [.int .i64 z0, .int .i64 z1, .int .i64 z2, .int .i64 z3] = w2 := ⟨_, rfl⟩
  rw [hw2]
  have K2 : Hid (Blk w2 (w.heap.size + 1) #[.int .i64 z0, .int .i64 z1, .int .i64 z2, .int .i64 z3]) := by subst hw2; exact Lib.hid (((((K1.out.set 0 (.int .i64 z0)).set 1 (.int .i64 z1)).set 2 (.int .i64 z2)).set 3 (.int .i64 z3)))
  have K3 : Hid (Blk w2 w.heap.size #[.int .i64 0, .int .i64 0, .int .i64 0, .int .i64 0]) := by subst hw2; exact Lib.hid (((((K0.out.other (p := ⟨w.heap.size + 1, 0, none⟩) (by dsimp only; omega) (.int .i64 z0)).other (p := ⟨w.heap.size + 1, 1, none⟩) (by dsimp only; omega) (.int .i64 z1)).other (p := ⟨w.heap.size + 1, 2, none⟩) (by dsimp only; omega) (.int .i64 z2)).other (p := ⟨w.heap.size + 1, 3, none⟩) (by dsimp only; omega) (.int .i64 z3)))
  have HB2 : Hid (Below w.heap.size w w2) := by subst hw2; exact Lib.hid (((((HB.out.setCell (p := ⟨w.heap.size + 1, 0, none⟩) (by dsimp only; omega) (.int .i64 z0)).setCell (p := ⟨w.heap.size + 1, 1, none⟩) (by dsimp only; omega) (.int .i64 z1)).setCell (p := ⟨w.heap.size + 1, 2, none⟩) (by dsimp only; omega) (.int .i64 z2)).setCell (p := ⟨w.heap.size + 1, 3, none⟩) (by dsimp only; omega) (.int .i64 z3)))
  clear hw2 K0 K1 HB
  obtain ⟨h2, k2, f2⟩ := K2.out
  obtain ⟨h3, k3, f3⟩ := K3.out
  go_wp2_with fail
  clear k2 f2 k3 f3
  have F := ((((K3.out.set 0 (.int .i64 z0)).set 1 (.int .i64 z1)).set 2 (.int .i64 z2)).set 3 (.int .i64 z3)).2.1
  have F0 := F 0; have F1 := F 1; have F2 := F 2; have F3 := F 3
  clear F
  refine bodyPost_ret (v := .agg #[.int .i64 z0, .int .i64 z1, .int .i64 z2, .int .i64 z3]) ?_ rfl ⟨rfl, ?_⟩
  · simp [results, Try.results94, go_sem, F0, F1, F2, F3]
  · exact ((((HB2.out.setCell (p := ⟨w.heap.size, 0, none⟩) (Nat.le_refl _) _).setCell (p := ⟨w.heap.size, 1, none⟩) (Nat.le_refl _) _).setCell (p := ⟨w.heap.size, 2, none⟩) (Nat.le_refl _) _).setCell (p := ⟨w.heap.size, 3, none⟩) (Nat.le_refl _) _)

end Go.Proofs.Ytjieojkfpoiabaa
