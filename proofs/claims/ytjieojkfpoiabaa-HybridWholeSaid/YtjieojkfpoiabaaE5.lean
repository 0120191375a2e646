/-
  The examples of chapter 8: Test, Messages, Chain; what the program answers to them.
-/
import Derived.Test.YtjieojkfpoiabaaE4
namespace Go.Proofs.Ytjieojkfpoiabaa
open Go.RowKit

def exT : HT := ⟨4, 1, 2, 2, 1, false, 3, 0, 8⟩
def exM : List Msg := [(0, 0, 10), (1, 0, 14), (0, 1, 20), (1, 1, 29), (0, 2, 30)]

theorem exRun0 : runE exT [8, 0, 0] = 0 := by kernel_rfl
theorem exRun : runL exT [8, 0, 0] = [0, 2, 2, 0] := by decide
theorem exErr0 : errE exT [8, 0, 0] 1 = 0 := by kernel_rfl
theorem exErrLo : sumE (stepErr exT) (stepsL exT [0, 0, 0, 0] [8, 0, 0]) - sumE (stepWide 1) (stepsL exT [0, 0, 0, 0] [8, 0, 0]) = -14 := by decide
theorem exErrHi : sumE (stepErr exT) (stepsL exT [0, 0, 0, 0] [8, 0, 0]) + sumE (stepWide 1) (stepsL exT [0, 0, 0, 0] [8, 0, 0]) = -2 := by decide
theorem exOpen : openE exM 5 40 = 0 := by decide
theorem exLate : lateL exM 5 40 = [1, 2] := by decide
theorem exChk : (chkC [2, 4] [6, 4]).2 = 0 := by decide
theorem exMov : movO [2, 4] [6, 4] 2 0 (0, 1) = some [(5, 1), (6, 1)] := by decide

set_option maxRecDepth 100000 in
theorem Test_any (w : World) : Calls Try.prog 70 #[] w fun e w' => e = .returned (.agg exT.cells) ∧ Below w.heap.size w w' := by
  go_enter Try.func70, Try.ntmps70
  go_wp2_with fail
  refine bodyPost_ret (v := .agg exT.cells) ?_ rfl ⟨rfl, bAlloc (bSelf w) _⟩
  simp [results, Try.results70, go_sem, exT]

set_option maxRecDepth 100000 in
theorem Messages_any (w : World) : Calls Try.prog 71 #[] w fun e w' => e = .returned (.slice (some ⟨w.heap.size, 0, none⟩) 5 5) ∧ Reads w' (some ⟨w.heap.size, 0, none⟩) (5 * 3) (msgs exM) ∧ Below w.heap.size w w' := by
  go_enter Try.func71, Try.ntmps71
  go_wp2_with fail
  go_ret
  refine ⟨rfl, ?_, bAlloc (bSelf w) _⟩
  exact Reads.fresh w #[.int .i64 0, .int .i64 0, .int .i64 10, .int .i64 1, .int .i64 0, .int .i64 14, .int .i64 0, .int .i64 1, .int .i64 20, .int .i64 1, .int .i64 1, .int .i64 29, .int .i64 0, .int .i64 2, .int .i64 30] _ (msgs exM) _ 15 rfl (fun i hi => by
    match i, hi with
    | 0, _ => rfl
    | 1, _ => rfl
    | 2, _ => rfl
    | 3, _ => rfl
    | 4, _ => rfl
    | 5, _ => rfl
    | 6, _ => rfl
    | 7, _ => rfl
    | 8, _ => rfl
    | 9, _ => rfl
    | 10, _ => rfl
    | 11, _ => rfl
    | 12, _ => rfl
    | 13, _ => rfl
    | 14, _ => rfl
    | n + 15, h => exact absurd h (by omega))

theorem two_fresh (w : World) (x y : Int) (T : TypeId) {B : Nat} (hB : w.heap.size = B) : Reads (w.alloc (.cells #[.int .i64 x, .int .i64 y] T)) (some ⟨B, 0, none⟩) 2 (ints [x, y]) :=
  Reads.fresh w _ _ _ _ 2 hB (fun i hi => by
    match i, hi with
    | 0, _ => rfl
    | 1, _ => rfl
    | n + 2, h => exact absurd h (by omega))

set_option maxRecDepth 100000 in
theorem Chain_any (w : World) : Calls Try.prog 72 #[] w fun e w' => ∃ b1 b2, e = .returned (.agg (chV (some ⟨b1, 0, none⟩) 2 2 (some ⟨b2, 0, none⟩) 2 2)) ∧ Reads w' (some ⟨b1, 0, none⟩) 2 (ints [2, 4]) ∧ Reads w' (some ⟨b2, 0, none⟩) 2 (ints [6, 4]) ∧ Below w.heap.size w w' := by
  go_enter Try.func72, Try.ntmps72
  go_wp2_with fail
  obtain ⟨v1, hv1⟩ : ∃ v : Value, v = .slice (some ⟨w.heap.size + 1, 0, none⟩) 2 2 := ⟨_, rfl⟩
  obtain ⟨v2, hv2⟩ : ∃ v : Value, v = .slice (some ⟨w.heap.size + 1 + 1, 0, none⟩) 2 2 := ⟨_, rfl⟩
  rw [← hv1, ← hv2]
  have F := ((Blk.new w #[v1, v2] 73).alloc (.cells #[.int .i64 2, .int .i64 4] 3)).alloc (.cells #[.int .i64 6, .int .i64 4] 3)
  have F0 := F.2.1 0
  have F1 := F.2.1 1
  clear F
  refine bodyPost_ret (v := .agg #[v1, v2]) ?_ rfl ⟨w.heap.size + 1, w.heap.size + 1 + 1, by rw [hv1, hv2], (two_fresh _ _ _ _ (by simp)).alloc _, two_fresh _ _ _ _ (by simp), bAlloc (bAlloc (bAlloc (bSelf w) _) _) _⟩
  simp [results, Try.results72, go_sem, F0, F1]

theorem four_fresh (w : World) (x y z t : Int) (T : TypeId) {B : Nat} (hB : w.heap.size = B) : Reads (w.alloc (.cells #[.int .i64 x, .int .i64 y, .int .i64 z, .int .i64 t] T)) (some ⟨B, 0, none⟩) 4 (ints [x, y, z, t]) :=
  Reads.fresh w _ _ _ _ 4 hB (fun i hi => by
    match i, hi with
    | 0, _ => rfl
    | 1, _ => rfl
    | 2, _ => rfl
    | 3, _ => rfl
    | n + 4, h => exact absurd h (by omega))
theorem three_fresh (w : World) (x y z : Int) (T : TypeId) {B : Nat} (hB : w.heap.size = B) : Reads (w.alloc (.cells #[.int .i64 x, .int .i64 y, .int .i64 z] T)) (some ⟨B, 0, none⟩) 3 (ints [x, y, z]) :=
  Reads.fresh w _ _ _ _ 3 hB (fun i hi => by
    match i, hi with
    | 0, _ => rfl
    | 1, _ => rfl
    | 2, _ => rfl
    | n + 3, h => exact absurd h (by omega))
theorem twoF_fresh (w : World) (x y z t : Int) (T : TypeId) {B : Nat} (hB : w.heap.size = B) : Reads (w.alloc (.cells #[.int .i64 x, .int .i64 y, .int .i64 z, .int .i64 t] T)) (some ⟨B, 0, none⟩) 4 (fracs [(x, y), (z, t)]) :=
  Reads.fresh w _ _ _ _ 4 hB (fun i hi => by
    match i, hi with
    | 0, _ => rfl
    | 1, _ => rfl
    | 2, _ => rfl
    | 3, _ => rfl
    | n + 4, h => exact absurd h (by omega))

end Go.Proofs.Ytjieojkfpoiabaa
