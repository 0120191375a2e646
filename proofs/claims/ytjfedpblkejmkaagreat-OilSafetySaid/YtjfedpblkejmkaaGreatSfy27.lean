/-
  Texts of this claim, in their build order: OL1.
-/
import Derived.Test.YtjfedpblkejmkaaGreatSfy24
import Derived.Test.YtjfedpblkejmkaaGreatSfy26
import Derived.Test.YtjfedpblkejmkaaGreatSfy23
import Derived.Test.YtjfedpblkejmkaaGreatSfy3
import Derived.Test.YtjfedpblkejmkaaGreatSfy4

/-
  The examples of chapter 3 in memory; SameStates.
-/
namespace Go.Proofs.YtjfedpblkejmkaaGreat
open Go.RowKit

theorem sg_ext {l m : List OSt} (h : l.length = m.length) (hg : ∀ i, i < l.length → sg l i = sg m i) : l = m := by
  apply List.ext_getElem h
  intro i h1 h2
  have := hg i h1
  unfold sg at this
  simpa [h1, h2] using this

set_option maxHeartbeats 400000 in
set_option maxRecDepth 100000 in
theorem SameStates_any (zs ys : List OSt) (a b : Option Addr) (ca cb : Nat) (w : World) (hlz : zs.length ≤ maxLen) (hra : Reads w a (zs.length * 2) (osts zs)) (hrb : Reads w b (ys.length * 2) (osts ys)) :
    Calls Tryz.prog 31 #[.slice a zs.length ca, .slice b ys.length cb] w fun e w' => e = .returned (.bool (decide (zs = ys))) ∧ Below w.heap.size w w' := by
  unfold maxLen at hlz
  have HA := Lib.hid hra
  have HB := Lib.hid hrb
  clear hra hrb
  by_cases hl : zs.length = ys.length
  · have HL := Lib.hid hl
    have hl1 : zs.length ≤ ys.length := by omega
    have hl2 : ys.length ≤ zs.length := by omega
    clear hl
    go_enter Tryz.func31, Tryz.ntmps31
    go_wp2_with fail
    go_loopw [5] (fun i wr => ∃ k : Nat, k ≤ zs.length ∧ i = .int .i64 k ∧ Hid (∀ j, j < k → sg zs j = sg ys j) ∧ Hid (Below w.heap.size w wr)) (fun i _ => zs.length - (intOf i).toNat)
    case atStart => exact ⟨0, Nat.zero_le _, rfl, Lib.hid (by intro j h; omega), Lib.hid (bSelf w)⟩
    case round =>
      obtain ⟨k, hk, rfl, hp, hB⟩ := hrel
      by_cases hlt : k < zs.length
      · have hlt2 : k < ys.length := by omega
        obtain ⟨ba, oa, rfl, hba, hca⟩ := (HA.out.to hB.out).at (k := k * 2) (by omega)
        obtain ⟨bb, ob, rfl, hbb, hcb⟩ := (HB.out.to hB.out).at (k := k * 2) (by omega)
        obtain ⟨n1, d1, hz⟩ : ∃ n1 d1, sg zs k = (n1, d1) := ⟨_, _, rfl⟩
        obtain ⟨n2, d2, hy⟩ : ∃ n2 d2, sg ys k = (n2, d2) := ⟨_, _, rfl⟩
        have h1 : Hid (wr.cell? ⟨ba, oa + k * 2, none⟩ = some (.int .i64 n1)) := Lib.hid (by rw [hca _ (by omega), osts0, hz])
        have h2 : Hid (wr.cell? ⟨ba, oa + k * 2 + 1, none⟩ = some (.bool d1)) := Lib.hid (by rw [Nat.add_assoc, hca _ (by omega), osts1, hz])
        have h3 : Hid (wr.cell? ⟨bb, ob + k * 2, none⟩ = some (.int .i64 n2)) := Lib.hid (by rw [hcb _ (by omega), osts0, hy])
        have h4 : Hid (wr.cell? ⟨bb, ob + k * 2 + 1, none⟩ = some (.bool d2)) := Lib.hid (by rw [Nat.add_assoc, hcb _ (by omega), osts1, hy])
        clear hca hcb
        have HZ := Lib.hid hz
        have HY := Lib.hid hy
        clear hz hy
        by_cases he : (n1, d1) = (n2, d2)
        · cases he
          go_wp2_with fail
          refine wp_region_quiet_all (fun w' => Below (World.heap wr).size (wr) w') (by kernel_rfl) (by kernel_rfl) (Below.refl _ _).drew ?_
          refine WQ.out ?_
          repeat (first | (refine WQ_no (by rfl) ?_; (simp only [Act.put, List.setIfInBounds_toArray, List.set_cons_zero, List.set_cons_succ])) | (refine WQ_yes (by rfl) ?_; apply Exists.intro; refine ⟨fun w1 hb1 => ?_, ?_⟩; (focus (((have k1 := (hb1.cell (p := ⟨ba, oa + k * 2, none⟩) hba).trans h1.out; have k2 := (hb1.cell (p := ⟨ba, oa + k * 2 + 1, none⟩) hba).trans h2.out; have k3 := (hb1.cell (p := ⟨bb, ob + k * 2, none⟩) hbb).trans h3.out; have k4 := (hb1.cell (p := ⟨bb, ob + k * 2 + 1, none⟩) hbb).trans h4.out); have hb1 := Lib.hid hb1; go_simp); (try (go_bits; try go_simp)); (try (rw [if_pos (by omega)]; try go_simp)); (first | done | (fail) | (with_reducible rfl) | exact rfl))); (simp only [Act.put, List.setIfInBounds_toArray, List.set_cons_zero, List.set_cons_succ])))
          refine WQ_nil ?_
          intro w1 hb1
          go_wp2_with fail
          go_roundw
          case rel =>
            refine ⟨k + 1, by omega, by go_num, Lib.hid (fun j hj => ?_), Lib.hid (bThen hB.out hb1)⟩
            by_cases h : j = k
            · subst h; rw [HZ.out, HY.out]
            · exact hp.out j (by omega)
          case measure => simp [intOf]; omega
        · have HE := Lib.hid he
          have hcs : (¬ n1 = n2) ∨ (n1 = n2 ∧ ¬ d1 = d2) := by
            by_cases h : n1 = n2
            · exact .inr ⟨h, fun h2 => he (by rw [h, h2])⟩
            · exact .inl h
          clear he
          rcases hcs with hn | ⟨rfl, hn⟩
          all_goals
            go_wp2_with fail
            refine wp_region_quiet_all (fun w' => Below (World.heap wr).size (wr) w') (by kernel_rfl) (by kernel_rfl) (Below.refl _ _).drew ?_
            refine WQ.out ?_
            repeat (first | (refine WQ_no (by rfl) ?_; (simp only [Act.put, List.setIfInBounds_toArray, List.set_cons_zero, List.set_cons_succ])) | (refine WQ_yes (by rfl) ?_; apply Exists.intro; refine ⟨fun w1 hb1 => ?_, ?_⟩; (focus (((have k1 := (hb1.cell (p := ⟨ba, oa + k * 2, none⟩) hba).trans h1.out; have k2 := (hb1.cell (p := ⟨ba, oa + k * 2 + 1, none⟩) hba).trans h2.out; have k3 := (hb1.cell (p := ⟨bb, ob + k * 2, none⟩) hbb).trans h3.out; have k4 := (hb1.cell (p := ⟨bb, ob + k * 2 + 1, none⟩) hbb).trans h4.out); have hb1 := Lib.hid hb1; go_simp); (try (go_bits; try go_simp)); (try (rw [if_pos (by omega)]; try go_simp)); (first | done | (fail) | (with_reducible rfl) | exact rfl))); (simp only [Act.put, List.setIfInBounds_toArray, List.set_cons_zero, List.set_cons_succ])))
            refine WQ_nil ?_
            intro w1 hb1
            go_wp2_with fail
            go_ret
            exact ⟨ret_bool (by have : ¬ zs = ys := fun h => HE.out (by rw [← HZ.out, ← HY.out, h]); simp [this]), bThen hB.out hb1⟩
      · have : k = zs.length := by omega
        subst this
        go_wp2_with fail
        go_ret
        exact ⟨ret_bool (by have : zs = ys := sg_ext HL.out hp.out; simp [this]), hB.out⟩
  · have HL := Lib.hid hl
    have h1 : ((zs.length : Int) != ys.length) = true := by simp; omega
    clear hl
    go_enter Tryz.func31, Tryz.ntmps31
    go_wp2_with fail
    go_ret
    exact ⟨ret_bool (by have : ¬ zs = ys := fun h => HL.out (by rw [h]); simp [this]), bSelf w⟩

set_option maxHeartbeats 400000 in
theorem oWhole_any (n : Int) (w : World) : Calls Tryz.prog 22 #[.int .i64 n] w fun e w' => e = .returned (.agg #[.int .i64 n, .int .i64 1]) ∧ Below w.heap.size w w' := by
  go_enter Tryz.func22, Tryz.ntmps22
  go_upto_region 1 with (fail)
  obtain ⟨w1, hw1⟩ : ∃ w1, w.alloc (.cells #[.int .i64 0, .int .i64 0] 28) = w1 := ⟨_, rfl⟩
  rw [hw1]
  have K0 : Hid (Blk w1 w.heap.size #[.int .i64 0, .int .i64 0]) := by subst hw1; exact Lib.hid (Blk.new _ _ _)
  have HB : Hid (Below w.heap.size w w1) := by subst hw1; exact Lib.hid (bAlloc (bSelf w) _)
  clear hw1
  obtain ⟨-, k0, f0⟩ := K0.out
  go_wp2_with fail
  have F := (K0.out.set 0 (.int .i64 n)).set 1 (.int .i64 1)
  have F0 := F.2.1 0
  have F1 := F.2.1 1
  clear F k0 f0
  refine bodyPost_ret (v := .agg #[.int .i64 n, .int .i64 1]) ?_ rfl ⟨rfl, ?_⟩
  · simp [results, Tryz.results22, go_sem, F0, F1]
  · exact (HB.out.setCell (p := ⟨w.heap.size, 0, none⟩) (Nat.le_refl _) _).setCell (p := ⟨w.heap.size, 1, none⟩) (Nat.le_refl _) _

set_option maxRecDepth 100000 in
theorem Plant_any (w : World) : Calls Tryz.prog 87 #[] w fun e w' => ∃ a, e = .returned (.agg (plC exP a 3)) ∧ Reads w' a (3 * 2) (fracs exP.pts) ∧ Below w.heap.size w w' := by
  go_enter Tryz.func87, Tryz.ntmps87
  go_wp2_with fail
  obtain ⟨v1, hv1⟩ : ∃ v : Value, v = .slice (some ⟨w.heap.size + 1, 0, none⟩) 3 3 := ⟨_, rfl⟩
  rw [← hv1]
  have F := (Blk.new w #[v1, .int .i64 4, .int .i64 150, .int .i64 190] 44).alloc (.cells #[.int .i64 0, .int .i64 100, .int .i64 10, .int .i64 150, .int .i64 30, .int .i64 200] 188)
  have F0 := F.2.1 0
  have F1 := F.2.1 1
  have F2 := F.2.1 2
  have F3 := F.2.1 3
  clear F
  refine bodyPost_ret (v := .agg #[v1, .int .i64 4, .int .i64 150, .int .i64 190]) ?_ rfl ⟨_, by rw [hv1]; rfl, Reads.fresh _ _ _ _ _ 6 (by simp) (fun i hi => ?_), bAlloc (bAlloc (bSelf w) _) _⟩
  · simp [results, Tryz.results87, go_sem, F0, F1, F2, F3]
  · match i, hi with
    | 0, _ => rfl
    | 1, _ => rfl
    | 2, _ => rfl
    | 3, _ => rfl
    | 4, _ => rfl
    | 5, _ => rfl
    | n + 6, h => exact absurd h (by omega)
set_option maxRecDepth 100000 in
theorem Small_any (w : World) : Calls Tryz.prog 90 #[] w fun e w' => ∃ a, e = .returned (.agg (plC exS a 2)) ∧ Reads w' a (2 * 2) (fracs exS.pts) ∧ Below w.heap.size w w' := by
  go_enter Tryz.func90, Tryz.ntmps90
  go_wp2_with fail
  obtain ⟨v1, hv1⟩ : ∃ v : Value, v = .slice (some ⟨w.heap.size + 1, 0, none⟩) 2 2 := ⟨_, rfl⟩
  rw [← hv1]
  have F := (Blk.new w #[v1, .int .i64 2, .int .i64 30, .int .i64 50] 44).alloc (.cells #[.int .i64 0, .int .i64 10, .int .i64 4, .int .i64 50] 188)
  have F0 := F.2.1 0
  have F1 := F.2.1 1
  have F2 := F.2.1 2
  have F3 := F.2.1 3
  clear F
  refine bodyPost_ret (v := .agg #[v1, .int .i64 2, .int .i64 30, .int .i64 50]) ?_ rfl ⟨_, by rw [hv1]; rfl, Reads.fresh _ _ _ _ _ 4 (by simp) (fun i hi => ?_), bAlloc (bAlloc (bSelf w) _) _⟩
  · simp [results, Tryz.results90, go_sem, F0, F1, F2, F3]
  · match i, hi with
    | 0, _ => rfl
    | 1, _ => rfl
    | 2, _ => rfl
    | 3, _ => rfl
    | n + 4, h => exact absurd h (by omega)
theorem Full_any (w : World) : Calls Tryz.prog 88 #[] w fun e w' => e = .returned (.agg #[.int .i64 30, .bool false]) ∧ Below w.heap.size w w' := by
  go_enter Tryz.func88, Tryz.ntmps88
  go_wp2_with fail
  refine bodyPost_ret (v := .agg #[.int .i64 30, .bool false]) ?_ rfl ⟨rfl, bAlloc (bSelf w) _⟩
  simp [results, Tryz.results88, go_sem]
set_option maxRecDepth 100000 in
theorem Class_any (w : World) : Calls Tryz.prog 89 #[] w fun e w' => ∃ a, e = .returned (.slice a 2 2) ∧ Reads w' a (2 * 2) (fracs exC) ∧ Below w.heap.size w w' := by
  go_enter Tryz.func89, Tryz.ntmps89
  go_wp2_with fail
  go_ret
  refine ⟨_, rfl, Reads.fresh _ _ _ _ _ 4 (by simp) (fun i hi => ?_), bAlloc (bSelf w) _⟩
  match i, hi with
  | 0, _ => rfl
  | 1, _ => rfl
  | 2, _ => rfl
  | 3, _ => rfl
  | n + 4, h => exact absurd h (by omega)
set_option maxRecDepth 100000 in
theorem Valve_any (w : World) : Calls Tryz.prog 91 #[] w fun e w' => ∃ a, e = .returned (.slice a 3 3) ∧ Reads w' a (3 * 3) (flws exV) ∧ Below w.heap.size w w' := by
  go_enter Tryz.func91, Tryz.ntmps91
  go_wp2_with fail
  go_ret
  refine ⟨_, rfl, Reads.fresh _ _ _ _ _ 9 (by simp) (fun i hi => ?_), bAlloc (bSelf w) _⟩
  match i, hi with
  | 0, _ => rfl
  | 1, _ => rfl
  | 2, _ => rfl
  | 3, _ => rfl
  | 4, _ => rfl
  | 5, _ => rfl
  | 6, _ => rfl
  | 7, _ => rfl
  | 8, _ => rfl
  | n + 9, h => exact absurd h (by omega)

end Go.Proofs.YtjfedpblkejmkaaGreat

