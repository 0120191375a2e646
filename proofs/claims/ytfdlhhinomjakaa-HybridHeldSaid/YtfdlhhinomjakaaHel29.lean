/-
  Texts of this claim, in their build order: J3 J4.
-/
import Derived.Test.YtfdlhhinomjakaaHel28
import Derived.Test.YtfdlhhinomjakaaHel11
import Derived.WalkSpells
import Derived.Test.YtfdlhhinomjakaaHel0

namespace Go.Proofs.Ytfdlhhinomjakaa
section
set_option maxHeartbeats 400000
open Go.RowKit

theorem stateOf_2 (z0 z1 : Int) (a : Option Addr) (cap : Nat) (w : World) (hr : Reads w a 2 (ints [z0, z1])) :
    Calls Try.prog 39 #[.slice a 2 cap] w fun e w' => e = .returned (.agg #[.int .i64 z0, .int .i64 z1, .int .i64 0, .int .i64 0]) ∧ Below w.heap.size w w' := by
  obtain ⟨b, off, rfl, hb, hc⟩ := hr.at (k := 0) (by omega)
  go_enter Try.func39, Try.ntmps39
  go_upto_region 2 with (fail)
  obtain ⟨w1, hw1⟩ : ∃ w1, (w.alloc (.cells #[.int .i64 0, .int .i64 0, .int .i64 0, .int .i64 0] 72)).alloc (.cells #[.int .i64 0, .int .i64 0, .int .i64 0, .int .i64 0] 72) = w1 := ⟨_, rfl⟩
  rw [hw1]
  have HB : Hid (Below w.heap.size w w1) := by subst hw1; exact zH (bAlloc (bAlloc (bSelf w) _) _)
  have K0 : Hid (Blk w1 w.heap.size #[.int .i64 0, .int .i64 0, .int .i64 0, .int .i64 0]) := by subst hw1; exact zH ((Blk.new w _ _).alloc _)
  have K1 : Hid (Blk w1 (w.heap.size + 1) #[.int .i64 0, .int .i64 0, .int .i64 0, .int .i64 0]) := by subst hw1; exact zH (Blk.newAt _ _ _ (by simp))
  have hc1 : Hid (∀ j, j < 2 → w1.cell? ⟨b, off + j, none⟩ = some (ints [z0, z1] j)) := zH (fun j hj => by rw [← hc j hj]; exact HB.out.cell (p := ⟨b, off + j, none⟩) hb)
  clear hw1 hc
  have hcp := fun ty => run_copy_cells (P := Try.prog) w1 26 26 ty 3 (w.heap.size + 1) 0 4 4 ⟨b, off, none⟩ 2 cap [.int .i64 z0, .int .i64 z1] (by kernel_rfl) (by kernel_rfl) (by rfl)
    (fun j v hj => by
      have hjk : j < 2 := (List.getElem?_eq_some_iff.1 hj).1
      have e : (⟨b, off, none⟩ : Addr).add j = ⟨b, off + j, none⟩ := by unfold Addr.add; split <;> simp_all
      rw [e, hc1.out j hjk, ← hj]
      match j, hjk with
      | 0, _ => rfl
      | 1, _ => rfl)
    (fun j hj => by
      rw [K1.out.2.1 (0 + j)]
      match j, (show j < 2 from hj) with
      | 0, _ => rfl
      | 1, _ => rfl)
    (fun j _ => K1.out.2.2 _)
    (fun v hv => by simp at hv; rcases hv with rfl | rfl <;> rfl)
  go_upto_region 3 with (fail)
  clear hcp
  obtain ⟨w2, hw2⟩ : ∃ w2, w1.setCells (w.heap.size + 1) 0 [.int .i64 z0, .int .i64 z1] = w2 := ⟨_, rfl⟩
  rw [hw2]
  have K2 : Hid (Blk w2 (w.heap.size + 1) #[.int .i64 z0, .int .i64 z1, .int .i64 0, .int .i64 0]) := by subst hw2; exact zH (((K1.out.set 0 (.int .i64 z0)).set 1 (.int .i64 z1)))
  have K3 : Hid (Blk w2 w.heap.size #[.int .i64 0, .int .i64 0, .int .i64 0, .int .i64 0]) := by subst hw2; exact zH (((K0.out.other (p := ⟨w.heap.size + 1, 0, none⟩) (by dsimp only; omega) (.int .i64 z0)).other (p := ⟨w.heap.size + 1, 1, none⟩) (by dsimp only; omega) (.int .i64 z1)))
  have HB2 : Hid (Below w.heap.size w w2) := by subst hw2; exact zH (((HB.out.setCell (p := ⟨w.heap.size + 1, 0, none⟩) (by dsimp only; omega) (.int .i64 z0)).setCell (p := ⟨w.heap.size + 1, 1, none⟩) (by dsimp only; omega) (.int .i64 z1)))
  clear hw2 K0 K1 HB
  obtain ⟨h2, k2, f2⟩ := K2.out
  obtain ⟨h3, k3, f3⟩ := K3.out
  go_wp2_with fail
  clear k2 f2 k3 f3
  have F := ((((K3.out.set 0 (.int .i64 z0)).set 1 (.int .i64 z1)).set 2 (.int .i64 0)).set 3 (.int .i64 0)).2.1
  have F0 := F 0; have F1 := F 1; have F2 := F 2; have F3 := F 3
  clear F
  refine bodyPost_ret (v := .agg #[.int .i64 z0, .int .i64 z1, .int .i64 0, .int .i64 0]) ?_ rfl ⟨rfl, ?_⟩
  · simp [results, Try.results39, go_sem, F0, F1, F2, F3]
  · exact ((((HB2.out.setCell (p := ⟨w.heap.size, 0, none⟩) (Nat.le_refl _) _).setCell (p := ⟨w.heap.size, 1, none⟩) (Nat.le_refl _) _).setCell (p := ⟨w.heap.size, 2, none⟩) (Nat.le_refl _) _).setCell (p := ⟨w.heap.size, 3, none⟩) (Nat.le_refl _) _)

theorem stateOf_3 (z0 z1 z2 : Int) (a : Option Addr) (cap : Nat) (w : World) (hr : Reads w a 3 (ints [z0, z1, z2])) :
    Calls Try.prog 39 #[.slice a 3 cap] w fun e w' => e = .returned (.agg #[.int .i64 z0, .int .i64 z1, .int .i64 z2, .int .i64 0]) ∧ Below w.heap.size w w' := by
  obtain ⟨b, off, rfl, hb, hc⟩ := hr.at (k := 0) (by omega)
  go_enter Try.func39, Try.ntmps39
  go_upto_region 2 with (fail)
  obtain ⟨w1, hw1⟩ : ∃ w1, (w.alloc (.cells #[.int .i64 0, .int .i64 0, .int .i64 0, .int .i64 0] 72)).alloc (.cells #[.int .i64 0, .int .i64 0, .int .i64 0, .int .i64 0] 72) = w1 := ⟨_, rfl⟩
  rw [hw1]
  have HB : Hid (Below w.heap.size w w1) := by subst hw1; exact zH (bAlloc (bAlloc (bSelf w) _) _)
  have K0 : Hid (Blk w1 w.heap.size #[.int .i64 0, .int .i64 0, .int .i64 0, .int .i64 0]) := by subst hw1; exact zH ((Blk.new w _ _).alloc _)
  have K1 : Hid (Blk w1 (w.heap.size + 1) #[.int .i64 0, .int .i64 0, .int .i64 0, .int .i64 0]) := by subst hw1; exact zH (Blk.newAt _ _ _ (by simp))
  have hc1 : Hid (∀ j, j < 3 → w1.cell? ⟨b, off + j, none⟩ = some (ints [z0, z1, z2] j)) := zH (fun j hj => by rw [← hc j hj]; exact HB.out.cell (p := ⟨b, off + j, none⟩) hb)
  clear hw1 hc
  have hcp := fun ty => run_copy_cells (P := Try.prog) w1 26 26 ty 3 (w.heap.size + 1) 0 4 4 ⟨b, off, none⟩ 3 cap [.int .i64 z0, .int .i64 z1, .int .i64 z2] (by kernel_rfl) (by kernel_rfl) (by rfl)
    (fun j v hj => by
      have hjk : j < 3 := (List.getElem?_eq_some_iff.1 hj).1
      have e : (⟨b, off, none⟩ : Addr).add j = ⟨b, off + j, none⟩ := by unfold Addr.add; split <;> simp_all
      rw [e, hc1.out j hjk, ← hj]
      match j, hjk with
      | 0, _ => rfl
      | 1, _ => rfl
      | 2, _ => rfl)
    (fun j hj => by
      rw [K1.out.2.1 (0 + j)]
      match j, (show j < 3 from hj) with
      | 0, _ => rfl
      | 1, _ => rfl
      | 2, _ => rfl)
    (fun j _ => K1.out.2.2 _)
    (fun v hv => by simp at hv; rcases hv with rfl | rfl | rfl <;> rfl)
  go_upto_region 3 with (fail)
  clear hcp
  obtain ⟨w2, hw2⟩ : ∃ w2, w1.setCells (w.heap.size + 1) 0 [.int .i64 z0, .int .i64 z1, .int .i64 z2] = w2 := ⟨_, rfl⟩
  rw [hw2]
  have K2 : Hid (Blk w2 (w.heap.size + 1) #[.int .i64 z0, .int .i64 z1, .int .i64 z2, .int .i64 0]) := by subst hw2; exact zH ((((K1.out.set 0 (.int .i64 z0)).set 1 (.int .i64 z1)).set 2 (.int .i64 z2)))
  have K3 : Hid (Blk w2 w.heap.size #[.int .i64 0, .int .i64 0, .int .i64 0, .int .i64 0]) := by subst hw2; exact zH ((((K0.out.other (p := ⟨w.heap.size + 1, 0, none⟩) (by dsimp only; omega) (.int .i64 z0)).other (p := ⟨w.heap.size + 1, 1, none⟩) (by dsimp only; omega) (.int .i64 z1)).other (p := ⟨w.heap.size + 1, 2, none⟩) (by dsimp only; omega) (.int .i64 z2)))
  have HB2 : Hid (Below w.heap.size w w2) := by subst hw2; exact zH ((((HB.out.setCell (p := ⟨w.heap.size + 1, 0, none⟩) (by dsimp only; omega) (.int .i64 z0)).setCell (p := ⟨w.heap.size + 1, 1, none⟩) (by dsimp only; omega) (.int .i64 z1)).setCell (p := ⟨w.heap.size + 1, 2, none⟩) (by dsimp only; omega) (.int .i64 z2)))
  clear hw2 K0 K1 HB
  obtain ⟨h2, k2, f2⟩ := K2.out
  obtain ⟨h3, k3, f3⟩ := K3.out
  go_wp2_with fail
  clear k2 f2 k3 f3
  have F := ((((K3.out.set 0 (.int .i64 z0)).set 1 (.int .i64 z1)).set 2 (.int .i64 z2)).set 3 (.int .i64 0)).2.1
  have F0 := F 0; have F1 := F 1; have F2 := F 2; have F3 := F 3
  clear F
  refine bodyPost_ret (v := .agg #[.int .i64 z0, .int .i64 z1, .int .i64 z2, .int .i64 0]) ?_ rfl ⟨rfl, ?_⟩
  · simp [results, Try.results39, go_sem, F0, F1, F2, F3]
  · exact ((((HB2.out.setCell (p := ⟨w.heap.size, 0, none⟩) (Nat.le_refl _) _).setCell (p := ⟨w.heap.size, 1, none⟩) (Nat.le_refl _) _).setCell (p := ⟨w.heap.size, 2, none⟩) (Nat.le_refl _) _).setCell (p := ⟨w.heap.size, 3, none⟩) (Nat.le_refl _) _)

theorem stateOf_4 (z0 z1 z2 z3 : Int) (a : Option Addr) (cap : Nat) (w : World) (hr : Reads w a 4 (ints [z0, z1, z2, z3])) :
    Calls Try.prog 39 #[.slice a 4 cap] w fun e w' => e = .returned (.agg #[.int .i64 z0, .int .i64 z1, .int .i64 z2, .int .i64 z3]) ∧ Below w.heap.size w w' := by
  obtain ⟨b, off, rfl, hb, hc⟩ := hr.at (k := 0) (by omega)
  go_enter Try.func39, Try.ntmps39
  go_upto_region 2 with (fail)
  obtain ⟨w1, hw1⟩ : ∃ w1, (w.alloc (.cells #[.int .i64 0, .int .i64 0, .int .i64 0, .int .i64 0] 72)).alloc (.cells #[.int .i64 0, .int .i64 0, .int .i64 0, .int .i64 0] 72) = w1 := ⟨_, rfl⟩
  rw [hw1]
  have HB : Hid (Below w.heap.size w w1) := by subst hw1; exact zH (bAlloc (bAlloc (bSelf w) _) _)
  have K0 : Hid (Blk w1 w.heap.size #[.int .i64 0, .int .i64 0, .int .i64 0, .int .i64 0]) := by subst hw1; exact zH ((Blk.new w _ _).alloc _)
  have K1 : Hid (Blk w1 (w.heap.size + 1) #[.int .i64 0, .int .i64 0, .int .i64 0, .int .i64 0]) := by subst hw1; exact zH (Blk.newAt _ _ _ (by simp))
  have hc1 : Hid (∀ j, j < 4 → w1.cell? ⟨b, off + j, none⟩ = some (ints [z0, z1, z2, z3] j)) := zH (fun j hj => by rw [← hc j hj]; exact HB.out.cell (p := ⟨b, off + j, none⟩) hb)
  clear hw1 hc
  have hcp := fun ty => run_copy_cells (P := Try.prog) w1 26 26 ty 3 (w.heap.size + 1) 0 4 4 ⟨b, off, none⟩ 4 cap [.int .i64 z0, .int .i64 z1, .int .i64 z2, .int .i64 z3] (by kernel_rfl) (by kernel_rfl) (by rfl)
    (fun j v hj => by
      have hjk : j < 4 := (List.getElem?_eq_some_iff.1 hj).1
      have e : (⟨b, off, none⟩ : Addr).add j = ⟨b, off + j, none⟩ := by unfold Addr.add; split <;> simp_all
      rw [e, hc1.out j hjk, ← hj]
      match j, hjk with
      | 0, _ => rfl
      | 1, _ => rfl
      | 2, _ => rfl
      | 3, _ => rfl)
    (fun j hj => by
      rw [K1.out.2.1 (0 + j)]
      match j, (show j < 4 from hj) with
      | 0, _ => rfl
      | 1, _ => rfl
      | 2, _ => rfl
      | 3, _ => rfl)
    (fun j _ => K1.out.2.2 _)
    (fun v hv => by simp at hv; rcases hv with rfl | rfl | rfl | rfl <;> rfl)
  go_upto_region 3 with (fail)
  clear hcp
  obtain ⟨w2, hw2⟩ : ∃ w2, w1.setCells (w.heap.size + 1) 0 [.int .i64 z0, .int .i64 z1, .int .i64 z2, .int .i64 z3] = w2 := ⟨_, rfl⟩
  rw [hw2]
  have K2 : Hid (Blk w2 (w.heap.size + 1) #[.int .i64 z0, .int .i64 z1, .int .i64 z2, .int .i64 z3]) := by subst hw2; exact zH (((((K1.out.set 0 (.int .i64 z0)).set 1 (.int .i64 z1)).set 2 (.int .i64 z2)).set 3 (.int .i64 z3)))
  have K3 : Hid (Blk w2 w.heap.size #[.int .i64 0, .int .i64 0, .int .i64 0, .int .i64 0]) := by subst hw2; exact zH (((((K0.out.other (p := ⟨w.heap.size + 1, 0, none⟩) (by dsimp only; omega) (.int .i64 z0)).other (p := ⟨w.heap.size + 1, 1, none⟩) (by dsimp only; omega) (.int .i64 z1)).other (p := ⟨w.heap.size + 1, 2, none⟩) (by dsimp only; omega) (.int .i64 z2)).other (p := ⟨w.heap.size + 1, 3, none⟩) (by dsimp only; omega) (.int .i64 z3)))
  have HB2 : Hid (Below w.heap.size w w2) := by subst hw2; exact zH (((((HB.out.setCell (p := ⟨w.heap.size + 1, 0, none⟩) (by dsimp only; omega) (.int .i64 z0)).setCell (p := ⟨w.heap.size + 1, 1, none⟩) (by dsimp only; omega) (.int .i64 z1)).setCell (p := ⟨w.heap.size + 1, 2, none⟩) (by dsimp only; omega) (.int .i64 z2)).setCell (p := ⟨w.heap.size + 1, 3, none⟩) (by dsimp only; omega) (.int .i64 z3)))
  clear hw2 K0 K1 HB
  obtain ⟨h2, k2, f2⟩ := K2.out
  obtain ⟨h3, k3, f3⟩ := K3.out
  go_wp2_with fail
  clear k2 f2 k3 f3
  have F := ((((K3.out.set 0 (.int .i64 z0)).set 1 (.int .i64 z1)).set 2 (.int .i64 z2)).set 3 (.int .i64 z3)).2.1
  have F0 := F 0; have F1 := F 1; have F2 := F 2; have F3 := F 3
  clear F
  refine bodyPost_ret (v := .agg #[.int .i64 z0, .int .i64 z1, .int .i64 z2, .int .i64 z3]) ?_ rfl ⟨rfl, ?_⟩
  · simp [results, Try.results39, go_sem, F0, F1, F2, F3]
  · exact ((((HB2.out.setCell (p := ⟨w.heap.size, 0, none⟩) (Nat.le_refl _) _).setCell (p := ⟨w.heap.size, 1, none⟩) (Nat.le_refl _) _).setCell (p := ⟨w.heap.size, 2, none⟩) (Nat.le_refl _) _).setCell (p := ⟨w.heap.size, 3, none⟩) (Nat.le_refl _) _)
end
section
open Go.RowKit

theorem stateOf_any (x : HT) (zs : List Int) (a : Option Addr) (cap : Nat) (w : World) (hx : x.ok) (hs : RSt x zs) (hr : Reads w a zs.length (ints zs)) :
    Calls Try.prog 39 #[.slice a zs.length cap] w fun e w' => e = .returned (.agg (l4 zs)) ∧ Below w.heap.size w w' := by
  have hl := hs.len
  have d1 := hx.dl1
  have d2 := hx.dl2
  clear hs
  match zs, hl, hr with
  | [], hl, _ => simp at hl; omega
  | [_], hl, _ => simp at hl; omega
  | [z0, z1], _, hr => exact stateOf_2 z0 z1 a cap w hr
  | [z0, z1, z2], _, hr => exact stateOf_3 z0 z1 z2 a cap w hr
  | [z0, z1, z2, z3], _, hr => exact stateOf_4 z0 z1 z2 z3 a cap w hr
  | _ :: _ :: _ :: _ :: _ :: _, hl, _ => simp at hl; omega

theorem cmdV_l4 (x : HT) (zs : List Int) (g : Nat) (hg : g < 3) : cmdV x [gi zs 0, gi zs 1, gi zs 2, gi zs 3] g = cmdV x zs g := by
  rcases (by omega : g = 0 ∨ g = 1 ∨ g = 2) with rfl | rfl | rfl <;> rfl
theorem RSt.st {x : HT} {zs : List Int} (h : RSt x zs) : St (gi zs 0) (gi zs 1) (gi zs 2) (gi zs 3) :=
  ⟨(h.bd 0).1, (h.bd 0).2, (h.bd 1).1, (h.bd 1).2, (h.bd 2).1, (h.bd 2).2, (h.bd 3).1, (h.bd 3).2⟩

/-- The error of a test with a state. -/
def checkE (x : HT) (zs : List Int) : Int := if testE x = 0 then stateE x zs else testE x
theorem CheckState_any (x : HT) (zs : List Int) (a : Option Addr) (cap : Nat) (w : World) (hlen : zs.length ≤ maxLen) (hr : Reads w a zs.length (ints zs)) :
    Calls Try.prog 43 #[.agg x.cells, .slice a zs.length cap] w fun e w' => e = .returned (.int .i64 (checkE x zs)) ∧ Below w.heap.size w w' := by
  by_cases hE : testE x = 0
  · rw [checkE, if_pos hE]; exact CheckState_ok x zs a cap w hE hlen hr
  · rw [checkE, if_neg hE]; exact CheckState_bad x zs a cap w hE
theorem checkE_zero {x : HT} {zs : List Int} (h : checkE x zs = 0) : x.ok ∧ RSt x zs := by
  unfold checkE at h
  by_cases hE : testE x = 0
  · rw [if_pos hE] at h; exact ⟨testE_zero hE, stateE_zero (testE_zero hE) h⟩
  · rw [if_neg hE] at h; exact absurd h hE

set_option maxHeartbeats 400000 in
set_option maxRecDepth 100000 in
theorem Clone_any (zs : List Int) (ad : Addr) (cap : Nat) (w : World) (hfew : zs.length ≤ 100000) (hr : Reads w (some ad) zs.length (ints zs)) :
    Calls Try.prog 56 #[.slice (some ad) zs.length cap] w fun e w' => ∃ a' cap', e = .returned (.slice a' zs.length cap') ∧ zs.length ≤ cap' ∧ Reads w' a' zs.length (ints zs) ∧ Below w.heap.size w w' ∧ ∀ p, a' = some p → w.heap.size ≤ p.block := by
  have HR := zH hr
  clear hr
  have HN := zH (Reads.news' (HR.out.alloc (.cells #[] 3)))
  have HF := zH hfew
  have hq : (binOp .eql 26 (.slice (some ad) zs.length cap) (.slice none 0 0)).run Try.prog w = .ok (.bool false) w := Lib.run_eql_slice_nil w _ _ (some ad) zs.length cap 0 0 Try.underlying26
  go_enter Try.func56, Try.ntmps56
  go_wp2_with (at_builtin; refine wpList_app w.heap.size rtInt rfl (.tmp 5) (.tmp 6) rfl (.slice (some ⟨w.heap.size, 0, none⟩) 0 0) 0 [] rfl (World.ownsRow_lit w #[] 0 (Nat.le_refl _) (by decide) rfl) ad zs.length cap (zs.map fun z => Value.int .i64 z) rfl (by simp) HN.out (ones _) (by unfold maxLen; omega) (by omega) (by simp) ?_; intro v' w2 hown' hgrow _ hwhere; have HO := zH hown'; have HBB : Hid (Below w.heap.size w w2) := zH ((bAlloc (bSelf w) _).grown hgrow (by simp) (fun k e => by cases e; exact Nat.le_refl _)); clear hown' hgrow hwhere)
  go_ret
  have hrow := HO.out
  rw [Nat.zero_add, List.nil_append] at hrow
  obtain ⟨a', cap', rfl, hcp, hrd, hfr⟩ := Reads.of_owns' hrow
  exact ⟨a', cap', rfl, hcp, hrd, HBB.out, hfr⟩
end
end Go.Proofs.Ytfdlhhinomjakaa
