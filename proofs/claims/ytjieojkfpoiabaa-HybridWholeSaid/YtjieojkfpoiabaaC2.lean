/-
  The reference's beginning.
-/
import Derived.Test.YtjieojkfpoiabaaC1
import Derived.Test.YtjieojkfpoiabaaLib6
namespace Go.Proofs.Ytjieojkfpoiabaa
open Go.RowKit

def beg (x : HT) : List Int := List.replicate (x.dl + 2).toNat 0
theorem gi_rep (n i : Nat) : gi (List.replicate n 0) i = 0 := by
  unfold gi
  rw [List.getD_eq_getElem?_getD, List.getElem?_replicate]
  split <;> rfl
theorem beg_st {x : HT} (hx : x.ok) : RSt x (beg x) := by
  have := hx.dl1
  exact ⟨by simp [beg]; omega, fun i => by unfold beg; rw [gi_rep]; omega⟩

theorem Reads.fresh (W : World) (cs : Array Value) (T : TypeId) (f : Nat → Value) (B n : Nat) (hB : W.heap.size = B) (h : ∀ i, i < n → cs[i]? = some (f i)) :
    Reads (W.alloc (.cells cs T)) (some ⟨B, 0, none⟩) n f := by
  subst hB
  refine .inr ⟨_, _, rfl, by simp, fun i hi => ?_⟩
  rw [Nat.zero_add, ← h i hi]
  simp [World.cell?_alloc_new]

def BegPost (x : HT) (w : World) (e : Ending) (w' : World) : Prop :=
  ∃ a cap, e = .returned (.slice a (beg x).length cap) ∧ (beg x).length ≤ cap ∧ Reads w' a (beg x).length (ints (beg x)) ∧ Below w.heap.size w w' ∧ ∀ p, a = some p → w.heap.size ≤ p.block

set_option maxHeartbeats 400000 in
set_option maxRecDepth 100000 in
theorem Begin_any (x : HT) (w : World) (hx : x.ok) : Calls Try.prog 79 #[.agg x.cells] w (BegPost x w) := by
  obtain ⟨m, d, c, s, dl, cp, b, lo, hi⟩ := x
  have h1 : 0 ≤ dl := hx.dl1
  have h2 : dl ≤ 2 := hx.dl2
  clear hx
  have h3 : dl = 0 ∨ dl = 1 ∨ dl = 2 := by omega
  clear h1 h2
  rcases h3 with rfl | rfl | rfl
  all_goals
    have mk2 : ∀ W : World, Sem.run Try.prog (Instr.makeSlice 26 (.int .i64 2) (.int .i64 2)) W = .ok (.slice (some ⟨W.heap.size, 0, none⟩) 2 2) (W.alloc (.cells #[.int .i64 0, .int .i64 0] 3)) := by intro W; kernel_rfl
    have mk3 : ∀ W : World, Sem.run Try.prog (Instr.makeSlice 26 (.int .i64 3) (.int .i64 3)) W = .ok (.slice (some ⟨W.heap.size, 0, none⟩) 3 3) (W.alloc (.cells #[.int .i64 0, .int .i64 0, .int .i64 0] 3)) := by intro W; kernel_rfl
    have mk4 : ∀ W : World, Sem.run Try.prog (Instr.makeSlice 26 (.int .i64 4) (.int .i64 4)) W = .ok (.slice (some ⟨W.heap.size, 0, none⟩) 4 4) (W.alloc (.cells #[.int .i64 0, .int .i64 0, .int .i64 0, .int .i64 0] 3)) := by intro W; kernel_rfl
    go_enter Try.func79, Try.ntmps79
    go_wp2_with fail
    go_ret
    refine ⟨_, _, rfl, Nat.le_refl _, Reads.fresh _ _ _ _ _ _ (by simp) (fun i hi => ?_), bAlloc (bAlloc (bSelf w) _) _, fun p hp => by cases hp; simp⟩
    have hi' : i < 4 := by simp [beg] at hi; omega
    rcases i with _ | _ | _ | _ | i
    all_goals first | rfl | (simp [beg] at hi; done) | omega

end Go.Proofs.Ytjieojkfpoiabaa
