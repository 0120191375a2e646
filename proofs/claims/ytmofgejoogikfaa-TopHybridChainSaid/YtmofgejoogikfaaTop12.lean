/-
  Texts of this claim, in their build order: E4 E5 G1 G2.
-/
import Derived.Test.YtmofgejoogikfaaTop11
import Derived.Test.YtmofgejoogikfaaRows
import Derived.ProofKit
import Derived.OpenShut
import Derived.ShutString
import Derived.ChangeOld
import Derived.Test.YtmofgejoogikfaaTop8
import Derived.Deep.Strs

/-
  Fracs of package ductilitybase; lists of fractions.
-/
namespace Go.Proofs.Ytmofgejoogikfaa
open Go.RowKit

theorem fracs0 (l : List (Int × Int)) (i : Nat) : fracs l (i * 2) = .int .i64 (fg l i).1 := by
  unfold fracs; rw [if_pos (by omega), show i * 2 / 2 = i by omega]
theorem fracs1 (l : List (Int × Int)) (i : Nat) : fracs l (i * 2 + 1) = .int .i64 (fg l i).2 := by
  unfold fracs; rw [if_neg (by omega), show (i * 2 + 1) / 2 = i by omega]
theorem fg_ext {l m : List (Int × Int)} (h : l.length = m.length) (hg : ∀ i, i < l.length → fg l i = fg m i) : l = m := by
  apply List.ext_getElem h
  intro i h1 h2
  have := hg i h1
  unfold fg at this
  simpa [h1, h2] using this

set_option maxHeartbeats 400000 in
set_option maxRecDepth 100000 in
theorem Fracs_any (zs ys : List (Int × Int)) (a b : Option Addr) (ca cb : Nat) (w : World) (hlz : zs.length ≤ maxLen) (hra : Reads w a (zs.length * 2) (fracs zs)) (hrb : Reads w b (ys.length * 2) (fracs ys)) :
    Calls Try.prog 42 #[.slice a zs.length ca, .slice b ys.length cb] w fun e w' => e = .returned (.bool (decide (zs = ys))) ∧ Below w.heap.size w w' := by
  unfold maxLen at hlz
  have HA := Lib.hid hra
  have HB := Lib.hid hrb
  clear hra hrb
  by_cases hl : zs.length = ys.length
  · have HL := Lib.hid hl
    have hl1 : zs.length ≤ ys.length := by omega
    have hl2 : ys.length ≤ zs.length := by omega
    clear hl
    go_enter Try.func42, Try.ntmps42
    go_wp2_with fail
    go_loopw [5] (fun i wr => ∃ k : Nat, k ≤ zs.length ∧ i = .int .i64 k ∧ Hid (∀ j, j < k → fg zs j = fg ys j) ∧ Hid (Below w.heap.size w wr)) (fun i _ => zs.length - (intOf i).toNat)
    case atStart => exact ⟨0, Nat.zero_le _, rfl, Lib.hid (by intro j h; omega), Lib.hid (bSelf w)⟩
    case round =>
      obtain ⟨k, hk, rfl, hp, hB⟩ := hrel
      by_cases hlt : k < zs.length
      · have hlt2 : k < ys.length := by omega
        obtain ⟨ba, oa, rfl, hba, hca⟩ := (HA.out.to hB.out).at (k := k * 2) (by omega)
        obtain ⟨bb, ob, rfl, hbb, hcb⟩ := (HB.out.to hB.out).at (k := k * 2) (by omega)
        obtain ⟨n1, d1, hz⟩ : ∃ n1 d1, fg zs k = (n1, d1) := ⟨_, _, rfl⟩
        obtain ⟨n2, d2, hy⟩ : ∃ n2 d2, fg ys k = (n2, d2) := ⟨_, _, rfl⟩
        have h1 : Hid (wr.cell? ⟨ba, oa + k * 2, none⟩ = some (.int .i64 n1)) := Lib.hid (by rw [hca _ (by omega), fracs0, hz])
        have h2 : Hid (wr.cell? ⟨ba, oa + k * 2 + 1, none⟩ = some (.int .i64 d1)) := Lib.hid (by rw [Nat.add_assoc, hca _ (by omega), fracs1, hz])
        have h3 : Hid (wr.cell? ⟨bb, ob + k * 2, none⟩ = some (.int .i64 n2)) := Lib.hid (by rw [hcb _ (by omega), fracs0, hy])
        have h4 : Hid (wr.cell? ⟨bb, ob + k * 2 + 1, none⟩ = some (.int .i64 d2)) := Lib.hid (by rw [Nat.add_assoc, hcb _ (by omega), fracs1, hy])
        clear hca hcb
        have HZ := Lib.hid hz
        have HY := Lib.hid hy
        clear hz hy
        by_cases he : (n1, d1) = (n2, d2)
        · cases he
          go_wp2_with fail
          refine wp_region_quiet_all (fun w' => Below (World.heap wr).size (wr) w') (by kernel_rfl) (by kernel_rfl) (Below.refl _ _).drew ?_
          refine WQ.out ?_
          repeat (first | (refine WQ_no (by rfl) ?_; (simp only [Act.put, List.setIfInBounds_toArray, List.set_cons_zero, List.set_cons_succ])) | (refine WQ_yes (by rfl) ?_; apply Exists.intro; refine ⟨fun w1 hb1 => ?_, ?_⟩; (focus (((have k1 := (hb1.cell (p := ⟨ba, oa + k * 2, none⟩) hba).trans h1.out; have k2 := (hb1.cell (p := ⟨ba, oa + k * 2 + 1, none⟩) hba).trans h2.out; have k3 := (hb1.cell (p := ⟨bb, ob + k * 2, none⟩) hbb).trans h3.out; have k4 := (hb1.cell (p := ⟨bb, ob + k * 2 + 1, none⟩) hbb).trans h4.out); have hb1 := Lib.hid hb1; go_simp); (try (go_bits; try go_simp)); (try (rw [if_pos (by omega)]; try go_simp)); (first | done | (fail) | (with_reducible rfl) | exact rfl))); (simp only [Act.put, List.setIfInBounds_toArray, List.set_cons_zero, List.set_cons_succ])))
          refine WQ_nil ?_
          intro w1 hb1
          go_wp2_with fail
          go_roundw
          case rel =>
            refine ⟨k + 1, by omega, by go_num, Lib.hid (fun j hj => ?_), Lib.hid (bThen hB.out hb1)⟩
            by_cases h : j = k
            · subst h; rw [HZ.out, HY.out]
            · exact hp.out j (by omega)
          case measure => simp [intOf]; omega
        · have HE := Lib.hid he
          have hcs : (¬ n1 = n2) ∨ (n1 = n2 ∧ ¬ d1 = d2) := by
            by_cases h : n1 = n2
            · exact .inr ⟨h, fun h2 => he (by rw [h, h2])⟩
            · exact .inl h
          clear he
          rcases hcs with hn | ⟨rfl, hn⟩
          all_goals
            go_wp2_with fail
            refine wp_region_quiet_all (fun w' => Below (World.heap wr).size (wr) w') (by kernel_rfl) (by kernel_rfl) (Below.refl _ _).drew ?_
            refine WQ.out ?_
            repeat (first | (refine WQ_no (by rfl) ?_; (simp only [Act.put, List.setIfInBounds_toArray, List.set_cons_zero, List.set_cons_succ])) | (refine WQ_yes (by rfl) ?_; apply Exists.intro; refine ⟨fun w1 hb1 => ?_, ?_⟩; (focus (((have k1 := (hb1.cell (p := ⟨ba, oa + k * 2, none⟩) hba).trans h1.out; have k2 := (hb1.cell (p := ⟨ba, oa + k * 2 + 1, none⟩) hba).trans h2.out; have k3 := (hb1.cell (p := ⟨bb, ob + k * 2, none⟩) hbb).trans h3.out; have k4 := (hb1.cell (p := ⟨bb, ob + k * 2 + 1, none⟩) hbb).trans h4.out); have hb1 := Lib.hid hb1; go_simp); (try (go_bits; try go_simp)); (try (rw [if_pos (by omega)]; try go_simp)); (first | done | (fail) | (with_reducible rfl) | exact rfl))); (simp only [Act.put, List.setIfInBounds_toArray, List.set_cons_zero, List.set_cons_succ])))
            refine WQ_nil ?_
            intro w1 hb1
            go_wp2_with fail
            go_ret
            exact ⟨ret_bool (by have : ¬ zs = ys := fun h => HE.out (by rw [← HZ.out, ← HY.out, h]); simp [this]), bThen hB.out hb1⟩
      · have : k = zs.length := by omega
        subst this
        go_wp2_with fail
        go_ret
        exact ⟨ret_bool (by have : zs = ys := fg_ext HL.out hp.out; simp [this]), hB.out⟩
  · have HL := Lib.hid hl
    have h1 : ((zs.length : Int) != ys.length) = true := by simp; omega
    clear hl
    go_enter Try.func42, Try.ntmps42
    go_wp2_with fail
    go_ret
    exact ⟨ret_bool (by have : ¬ zs = ys := fun h => HL.out (by rw [h]); simp [this]), bSelf w⟩

end Go.Proofs.Ytmofgejoogikfaa

/-
  The examples of chapter 8: Test, Messages, Chain; what the program answers to them.
-/
namespace Go.Proofs.Ytmofgejoogikfaa
open Go.RowKit

def exT : HT := ⟨4, 1, 2, 2, 1, false, 3, 0, 8⟩
theorem exRun0 : runE exT [8, 0, 0] = 0 := by kernel_rfl
theorem exRun : runL exT [8, 0, 0] = [0, 2, 2, 0] := by decide
theorem exChk : (chkC [2, 4] [6, 4]).2 = 0 := by decide
theorem exMov : movO [2, 4] [6, 4] 2 0 (0, 1) = some [(5, 1), (6, 1)] := by decide

set_option maxRecDepth 100000 in
theorem Test_any (w : World) : Calls Try.prog 40 #[] w fun e w' => e = .returned (.agg exT.cells) ∧ Below w.heap.size w w' := by
  go_enter Try.func40, Try.ntmps40
  go_wp2_with fail
  refine bodyPost_ret (v := .agg exT.cells) ?_ rfl ⟨rfl, bAlloc (bSelf w) _⟩
  simp [results, Try.results40, go_sem, exT]

theorem two_fresh (w : World) (x y : Int) (T : TypeId) {B : Nat} (hB : w.heap.size = B) : Reads (w.alloc (.cells #[.int .i64 x, .int .i64 y] T)) (some ⟨B, 0, none⟩) 2 (ints [x, y]) :=
  Reads.fresh w _ _ _ _ 2 hB (fun i hi => by
    match i, hi with
    | 0, _ => rfl
    | 1, _ => rfl
    | n + 2, h => exact absurd h (by omega))

set_option maxRecDepth 100000 in
theorem Chain_any (w : World) : Calls Try.prog 41 #[] w fun e w' => ∃ b1 b2, e = .returned (.agg (chV (some ⟨b1, 0, none⟩) 2 2 (some ⟨b2, 0, none⟩) 2 2)) ∧ Reads w' (some ⟨b1, 0, none⟩) 2 (ints [2, 4]) ∧ Reads w' (some ⟨b2, 0, none⟩) 2 (ints [6, 4]) ∧ Below w.heap.size w w' := by
  go_enter Try.func41, Try.ntmps41
  go_wp2_with fail
  obtain ⟨v1, hv1⟩ : ∃ v : Value, v = .slice (some ⟨w.heap.size + 1, 0, none⟩) 2 2 := ⟨_, rfl⟩
  obtain ⟨v2, hv2⟩ : ∃ v : Value, v = .slice (some ⟨w.heap.size + 1 + 1, 0, none⟩) 2 2 := ⟨_, rfl⟩
  rw [← hv1, ← hv2]
  have F := ((Blk.new w #[v1, v2] 24).alloc (.cells #[.int .i64 2, .int .i64 4] 3)).alloc (.cells #[.int .i64 6, .int .i64 4] 3)
  have F0 := F.2.1 0
  have F1 := F.2.1 1
  clear F
  refine bodyPost_ret (v := .agg #[v1, v2]) ?_ rfl ⟨w.heap.size + 1, w.heap.size + 1 + 1, by rw [hv1, hv2], (two_fresh _ _ _ _ (by simp)).alloc _, two_fresh _ _ _ _ (by simp), bAlloc (bAlloc (bAlloc (bSelf w) _) _) _⟩
  simp [results, Try.results41, go_sem, F0, F1]

theorem four_fresh (w : World) (x y z t : Int) (T : TypeId) {B : Nat} (hB : w.heap.size = B) : Reads (w.alloc (.cells #[.int .i64 x, .int .i64 y, .int .i64 z, .int .i64 t] T)) (some ⟨B, 0, none⟩) 4 (ints [x, y, z, t]) :=
  Reads.fresh w _ _ _ _ 4 hB (fun i hi => by
    match i, hi with
    | 0, _ => rfl
    | 1, _ => rfl
    | 2, _ => rfl
    | 3, _ => rfl
    | n + 4, h => exact absurd h (by omega))
theorem three_fresh (w : World) (x y z : Int) (T : TypeId) {B : Nat} (hB : w.heap.size = B) : Reads (w.alloc (.cells #[.int .i64 x, .int .i64 y, .int .i64 z] T)) (some ⟨B, 0, none⟩) 3 (ints [x, y, z]) :=
  Reads.fresh w _ _ _ _ 3 hB (fun i hi => by
    match i, hi with
    | 0, _ => rfl
    | 1, _ => rfl
    | 2, _ => rfl
    | n + 3, h => exact absurd h (by omega))
theorem twoF_fresh (w : World) (x y z t : Int) (T : TypeId) {B : Nat} (hB : w.heap.size = B) : Reads (w.alloc (.cells #[.int .i64 x, .int .i64 y, .int .i64 z, .int .i64 t] T)) (some ⟨B, 0, none⟩) 4 (fracs [(x, y), (z, t)]) :=
  Reads.fresh w _ _ _ _ 4 hB (fun i hi => by
    match i, hi with
    | 0, _ => rfl
    | 1, _ => rfl
    | 2, _ => rfl
    | 3, _ => rfl
    | n + 4, h => exact absurd h (by omega))

end Go.Proofs.Ytmofgejoogikfaa

/-
  The arguments of a statement, opened: a test; a slice of whole numbers.
-/
namespace Go.Proofs.Ytmofgejoogikfaa
open Go.ChangeShapes Go.WideShapes Go.ChangeAt Go.RowKit

theorem own : ownKnob Try.prog.godebug = none := by kernel_rfl
theorem laidOut : laidOutB Try.prog = true := by kernel_rfl

theorem cell_lt {w : World} {a : Addr} {v : Value} (h : w.cell? a = some v) : a.block < w.heap.size := by
  unfold World.cell? at h
  split at h
  · rename_i hb; exact (Array.getElem?_eq_some_iff.1 hb).1
  · cases h

end Go.Proofs.Ytmofgejoogikfaa

/-
  The arguments of a statement, opened: a clock; messages.
-/
namespace Go.Proofs.Ytmofgejoogikfaa
open Go.ChangeShapes Go.WideShapes Go.ChangeAt Go.RowKit

theorem arr2 {cs : Array Value} (h : cs.size = 2) : ∃ a b, cs = #[a, b] := by
  obtain ⟨l⟩ := cs
  match l, h with
  | [a, b], _ => exact ⟨a, b, rfl⟩

end Go.Proofs.Ytmofgejoogikfaa

