/-
  Texts of this claim, in their build order: A6.
-/
import Derived.Test.YtfdlhhinomjakaaHel3
import Derived.Deep.RegionHeld3
import Derived.Test.YtfdlhhinomjakaaHel0

namespace Go.Proofs.Ytfdlhhinomjakaa
section
open Go.RowKit

def pushV (x : HT) (a : List Int) (f : Int) : Int := f - x.d * (gi a 0 - gi a 1) - x.c * gi a 0 - x.s * cmdV x a x.dl.toNat
def nextV (x : HT) (a : List Int) (f : Int) : Int := 2 * gi a 0 - gi a 1 + pushV x a f / x.m

theorem cmdV_bd (x : HT) (a0 a1 a2 a3 : Int) (hx : x.ok) (hs : St a0 a1 a2 a3) : -15 ≤ cmdV x [a0, a1, a2, a3] x.dl.toNat ∧ cmdV x [a0, a1, a2, a3] x.dl.toNat ≤ 15 := by
  obtain ⟨h1, h2, h3, h4, h5, h6, h7, h8⟩ := hs
  rcases hx.dl012 with h | h | h <;> rw [h] <;> unfold cmdV <;> (try rw [h]) <;> cases x.cp <;> simp [gi] <;> omega

theorem count_any (x : HT) (w : World) (hx : x.ok) :
    Calls Try.prog 57 #[.agg x.cells] w fun e w' => e = .returned (.int .i64 (x.dl + 2)) ∧ Below w.heap.size w w' := by
  have := hx.dl1
  have := hx.dl2
  go_enter Try.func57, Try.ntmps57
  go_wp2_with fail
  go_ret
  exact ⟨rfl, (Below.refl _ _).alloc (Nat.le_refl _) _⟩

theorem count_at (x : HT) (n : Int) (w : World) (hx : x.ok) (hn : x.dl + 2 = n) :
    Calls Try.prog 57 #[.agg x.cells] w fun e w' => e = .returned (.int .i64 n) ∧ Below w.heap.size w w' := by
  subst hn; exact count_any x w hx

/-- The new state, out of the number that is put ahead of the elder ones. -/
def kp (x : HT) (j v : Int) : Int := if j ≤ x.dl then v else 0
def nextL (x : HT) (a : List Int) (n : Int) : List Int := [n, gi a 0, kp x 1 (gi a 1), kp x 2 (gi a 2)]
abbrev l4 (l : List Int) : Array Value := #[.int .i64 (gi l 0), .int .i64 (gi l 1), .int .i64 (gi l 2), .int .i64 (gi l 3)]

theorem ediv_bd (n m B : Int) (hm : 0 < m) (hB : 0 ≤ B) (h1 : -B ≤ n) (h2 : n ≤ B) : -B ≤ n / m ∧ n / m ≤ B := by
  constructor
  · rw [Int.le_ediv_iff_mul_le hm]
    have : B * 1 ≤ B * m := Int.mul_le_mul_of_nonneg_left (by omega) hB
    rw [Int.neg_mul]; omega
  · have : n / m < B + 1 := by
      rw [Int.ediv_lt_iff_lt_mul hm]
      have : (B + 1) * 1 ≤ (B + 1) * m := Int.mul_le_mul_of_nonneg_left (by omega) (by omega)
      omega
    omega

/-- copy of k numbers of a state into the places behind the first one. -/
theorem copy_state (w : World) (r q k : Nat) (hk : k = 1 ∨ k = 2 ∨ k = 3) (n a0 a1 a2 a3 : Int) (ty : TypeId)
    (hr : Blk w r #[.int .i64 n, .int .i64 0, .int .i64 0, .int .i64 0]) (hq : Blk w q #[.int .i64 a0, .int .i64 a1, .int .i64 a2, .int .i64 a3]) (cs : List Value) (hcs : cs = [Value.int .i64 a0, .int .i64 a1, .int .i64 a2].take k) :
    (Builtin.copy_ #[26, 26] ty #[.slice (some ⟨r, 1, none⟩) k 3, .slice (some ⟨q, 0, none⟩) 4 4]).run Try.prog w = .ok (goInt k) (w.setCells r 1 cs) := by
  have hlen : cs.length = k := by subst hcs; simp; omega
  have h := run_copy_cells (P := Try.prog) w 26 26 ty 3 r 1 k 3 ⟨q, 0, none⟩ 4 4 cs (by kernel_rfl) (by kernel_rfl) (by rw [hlen]; rcases hk with rfl | rfl | rfl <;> rfl)
    (fun j v hj => by
      have hjk : j < cs.length := (List.getElem?_eq_some_iff.1 hj).1
      rw [hlen] at hjk
      show w.cell? ((⟨q, 0, none⟩ : Addr).add j) = some v
      have e : (⟨q, 0, none⟩ : Addr).add j = ⟨q, j, none⟩ := by unfold Addr.add; split <;> simp_all
      rw [e, hq.2.1 j, ← hj, hcs]
      rcases hk with rfl | rfl | rfl
      · obtain rfl : j = 0 := by omega
        rfl
      · rcases (by omega : j = 0 ∨ j = 1) with rfl | rfl <;> rfl
      · rcases (by omega : j = 0 ∨ j = 1 ∨ j = 2) with rfl | rfl | rfl <;> rfl)
    (fun j hj => by
      rw [hlen] at hj
      rw [hr.2.1 (1 + j)]
      rcases hk with rfl | rfl | rfl
      · obtain rfl : j = 0 := by omega
        rfl
      · rcases (by omega : j = 0 ∨ j = 1) with rfl | rfl <;> rfl
      · rcases (by omega : j = 0 ∨ j = 1 ∨ j = 2) with rfl | rfl | rfl <;> rfl)
    (fun j _ => hr.2.2 _)
    (fun v hv => by subst hcs; have := List.mem_of_mem_take hv; simp at this; rcases this with rfl | rfl | rfl <;> rfl)
  rw [hlen] at h
  exact h

set_option maxHeartbeats 1600000 in
set_option maxRecDepth 100000 in
theorem next_any (x : HT) (a0 a1 a2 a3 f : Int) (w : World) (hx : x.ok) (hs : St a0 a1 a2 a3) (hf1 : -1000 ≤ f) (hf2 : f ≤ 1000) :
    Calls Try.prog 42 #[.agg x.cells, .agg #[.int .i64 a0, .int .i64 a1, .int .i64 a2, .int .i64 a3], .int .i64 f] w fun e w' => e = .returned (.tuple #[.agg (l4 (nextL x [a0, a1, a2, a3] (nextV x [a0, a1, a2, a3] f))), .bool (decide (-x.b ≤ nextV x [a0, a1, a2, a3] f) && decide (nextV x [a0, a1, a2, a3] f ≤ x.b))]) ∧ Below w.heap.size w w' := by
  have hS := zH hs
  obtain ⟨l0, u0, l1, u1, l2, u2, l3, u3⟩ := hs
  have hc := cmdV_bd x a0 a1 a2 a3 hx hS.out
  obtain ⟨c1, c2⟩ := hc
  have hp := mul_bd (a := x.d) (b := a0 - a1) (A := 1000) (B := 6) (by have := hx.d1; omega) hx.d2 (by omega) (by omega)
  obtain ⟨p1, p2⟩ := hp
  have hp := mul_bd (a := x.c) (b := a0) (A := 1000) (B := 3) (by have := hx.c1; omega) hx.c2 (by omega) (by omega)
  obtain ⟨p3, p4⟩ := hp
  have hp := mul_bd (a := x.s) (b := cmdV x [a0, a1, a2, a3] x.dl.toNat) (A := 1000) (B := 15) (by have := hx.s1; omega) hx.s2 (by omega) (by omega)
  obtain ⟨p5, p6⟩ := hp
  have m1 := hx.m1
  have m2 := hx.m2
  go_enter Try.func42, Try.ntmps42
  go_wp2_with fail
  obtain ⟨W, hW⟩ : ∃ W, (((w.alloc (.cells x.cells 68)).alloc (.cells #[.int .i64 a0, .int .i64 a1, .int .i64 a2, .int .i64 a3] 72)).alloc (.cells #[.int .i64 0, .int .i64 0, .int .i64 0, .int .i64 0] 72)) = W := ⟨_, rfl⟩
  rw [hW]
  have K0 : Hid (Blk W w.heap.size x.cells) := by subst hW; exact ((Blk.new _ _ _).alloc _).alloc _
  have K1 : Hid (Blk W (w.heap.size + 1) #[.int .i64 a0, .int .i64 a1, .int .i64 a2, .int .i64 a3]) := by subst hW; exact (Blk.newAt _ _ _ (by simp)).alloc _
  have K2 : Hid (Blk W (w.heap.size + 2) #[.int .i64 0, .int .i64 0, .int .i64 0, .int .i64 0]) := by subst hW; exact Blk.newAt _ _ _ (by simp)
  have HB : Hid (Below w.heap.size w W) := by subst hW; exact bAlloc (bAlloc (bAlloc (bSelf w) _) _) _
  clear hW
  refine wp_region_quiet_all (fun w' => Below (World.heap W).size (W) w') (by kernel_rfl) (by kernel_rfl) (Below.refl _ _).drew ?_
  repeat (first | (refine wpQuiet_no (by rfl) ?_; (simp only [Act.put, zzT, zzO, zzS])) | (refine wpQuiet_yes (by rfl) ?_; apply Exists.intro; refine ⟨fun w1 hb1 => ?_, ?_⟩; (focus (((obtain ⟨-, k0, -⟩ := K0.out.to hb1; obtain ⟨-, k1, -⟩ := K1.out.to hb1); have hb1 := zH hb1; go_simp); (try (go_bits; try go_simp)); (first | done | (((go_at_call 47); refine (actuators_any x a0 a1 a2 a3 _ hx hS.out).mono ?_; rintro e w' ⟨rfl, hb⟩; exact ⟨rfl, bThen hb1.out hb⟩)) | (with_reducible rfl) | exact rfl))); (simp only [Act.put, zzT, zzO, zzS])))
  refine wpQuiet_nil ?_
  intro w1 hb1
  replace K0 := zH (K0.out.to hb1)
  replace K1 := zH (K1.out.to hb1)
  replace K2 := zH (K2.out.to hb1)
  replace HB := zH (bThen HB.out hb1)
  clear hb1
  clear W
  obtain ⟨pv, hpv⟩ : ∃ pv, f - x.d * (a0 - a1) - x.c * a0 - x.s * cmdV x [a0, a1, a2, a3] x.dl.toNat = pv := ⟨_, rfl⟩
  have HPV : Hid (nextV x [a0, a1, a2, a3] f = 2 * a0 - a1 + pv / x.m) := by subst hpv; rfl
  have pb : -100000 ≤ pv ∧ pv ≤ 100000 := by omega
  rw [hpv]
  clear hpv
  have hq := ediv_bd pv x.m 100000 (by omega) (by omega) pb.1 pb.2
  obtain ⟨q1, q2⟩ := hq
  obtain ⟨pb1, pb2⟩ := pb
  clear p1 p2 p3 p4 p5 p6 c1 c2
  go_wp2_with fail
  have e0 : w1.cell? ⟨w.heap.size, 0, none⟩ = some (.int .i64 x.m) := K0.out.2.1 0
  have e1 : w1.cell? ⟨w.heap.size + 1, 0, none⟩ = some (.int .i64 a0) := K1.out.2.1 0
  have e2 : w1.cell? ⟨w.heap.size + 1, 1, none⟩ = some (.int .i64 a1) := K1.out.2.1 1
  have n0 := World.new_ne w1 _ e0
  have n1 := World.new_ne w1 _ e1
  have n2 := World.new_ne w1 _ e2
  have hw1 : IntKind.i64.wrap (2 * a0) = 2 * a0 := IntWalk.i64_in _ (by omega)
  have hw2 : IntKind.i64.wrap (2 * a0 - a1) = 2 * a0 - a1 := IntWalk.i64_in _ (by omega)
  have hw3 : IntKind.i64.wrap (2 * a0 - a1 + pv / x.m) = nextV x [a0, a1, a2, a3] f := by rw [HPV.out]; exact IntWalk.i64_in _ (by omega)
  go_cut [9] (fun s9 w' => s9 = .pointer (some ⟨w1.heap.size, 0, none⟩) ∧ w' = (w1.alloc (.cells #[.int .i64 (nextV x [a0, a1, a2, a3] f), .int .i64 0, .int .i64 0, .int .i64 0] 72)).drew)
  case first =>
    go_region_held3 (fun w' => w'.cell? ⟨w.heap.size, 0, none⟩ = some (.int .i64 x.m) ∧ w'.cell? ⟨w.heap.size + 1, 0, none⟩ = some (.int .i64 a0) ∧ w'.cell? ⟨w.heap.size + 1, 1, none⟩ = some (.int .i64 a1)) (go_keep)
      (first | (go_at_call 62; refine (floor_any _ _ _ (by omega) (by omega) (by omega) (by omega)).mono ?_; rintro e w' ⟨rfl, rfl⟩))
    all_goals (go_wp2_with fail; go_meet; case rel => exact ⟨rfl, rfl⟩)
  case rest =>
    have HN0 := zH K2.out.1
    clear e0 e1 e2 n0 n1 n2 hw1 hw2 hw3 q1 q2 pb1 pb2
    obtain ⟨rfl, hwc⟩ := hcut
    have R : Hid (Blk wc w1.heap.size #[.int .i64 (nextV x [a0, a1, a2, a3] f), .int .i64 0, .int .i64 0, .int .i64 0]) := by subst hwc; exact (Blk.new w1 _ _).drew
    replace K0 : Hid (Blk wc w.heap.size x.cells) := by subst hwc; exact (K0.out.alloc _).drew
    replace K1 : Hid (Blk wc (w.heap.size + 1) #[.int .i64 a0, .int .i64 a1, .int .i64 a2, .int .i64 a3]) := by subst hwc; exact (K1.out.alloc _).drew
    replace K2 : Hid (Blk wc (w.heap.size + 2) #[.int .i64 0, .int .i64 0, .int .i64 0, .int .i64 0]) := by subst hwc; exact (K2.out.alloc _).drew
    replace HB : Hid (Below w.heap.size w wc) := by subst hwc; exact (bAlloc HB.out _).drew
    clear hwc
    generalize hnv : nextV x [a0, a1, a2, a3] f = nv at *
    have HNV := zH hnv
    clear hnv
    generalize w1.heap.size = r at *
    clear w1
    go_wp2_with fail
    go_cut [53] (fun _ w' => Hid (Below w.heap.size w w' ∧ Blk w' r (l4 (nextL x [a0, a1, a2, a3] nv)) ∧ Blk w' w.heap.size x.cells ∧ Blk w' (w.heap.size + 2) #[.int .i64 0, .int .i64 0, .int .i64 0, .int .i64 0]))
    case first =>
      have hd := hx.dl012
      rcases hd with hd | hd | hd
      · have HD := zH hd
        clear hd
        refine wp_region_quiet_tail 4 (fun w' => Below (World.heap wc).size (wc) w') (by kernel_rfl) (by kernel_rfl) (Below.refl _ _).drew ?_
        simp only [List.take_succ_cons, List.take_zero, List.drop_succ_cons, List.drop_zero]
        repeat (first | (refine wpQuiet_no (by rfl) ?_; (simp only [Act.put, zzT, zzO, zzS])) | (refine wpQuiet_yes (by rfl) ?_; apply Exists.intro; refine ⟨fun w1 hb1 => ?_, ?_⟩; (focus (((obtain ⟨-, k0, -⟩ := K0.out.to hb1; obtain ⟨-, k1, -⟩ := K1.out.to hb1; obtain ⟨-, k2, -⟩ := R.out.to hb1); have hb1 := zH hb1; go_simp); (try (go_bits; try go_simp)); (first | done | (((go_at_call 57); refine (count_at x 2 _ hx (by rw [HD.out]; rfl)).mono ?_; rintro e w' ⟨rfl, hb⟩; exact ⟨rfl, bThen hb1.out hb⟩)) | (with_reducible rfl) | exact rfl))); (simp only [Act.put, zzT, zzO, zzS])))
        refine wpQuiet_nil ?_
        intro w1 hb1
        have R1 := R.out.to hb1
        have hcp := fun ty => copy_state w1 r (w.heap.size + 1) 1 (by simp) nv a0 a1 a2 a3 ty R1 (K1.out.to hb1) _ rfl
        have R2 := zH R1
        have hb1 := zH hb1
        clear R1
        go_wp2_with fail
        go_meet
        case rel =>
          have hn := HN0.out
          refine zH ⟨((bThen HB.out hb1.out).setCell (p := ⟨r, 1, none⟩) (by dsimp only; omega) _), ?_, ((K0.out.to hb1.out).other (p := ⟨r, 1, none⟩) (by dsimp only; omega) _), ((K2.out.to hb1.out).other (p := ⟨r, 1, none⟩) (by dsimp only; omega) _)⟩
          have h := (R2.out.set 1 (.int .i64 a0))
          have e : l4 (nextL x [a0, a1, a2, a3] nv) = (#[.int .i64 nv, .int .i64 a0, .int .i64 0, .int .i64 0] : Array Value) := by simp [nextL, kp, gi, HD.out]
          rw [e]
          exact h
      · have HD := zH hd
        clear hd
        refine wp_region_quiet_tail 4 (fun w' => Below (World.heap wc).size (wc) w') (by kernel_rfl) (by kernel_rfl) (Below.refl _ _).drew ?_
        simp only [List.take_succ_cons, List.take_zero, List.drop_succ_cons, List.drop_zero]
        repeat (first | (refine wpQuiet_no (by rfl) ?_; (simp only [Act.put, zzT, zzO, zzS])) | (refine wpQuiet_yes (by rfl) ?_; apply Exists.intro; refine ⟨fun w1 hb1 => ?_, ?_⟩; (focus (((obtain ⟨-, k0, -⟩ := K0.out.to hb1; obtain ⟨-, k1, -⟩ := K1.out.to hb1; obtain ⟨-, k2, -⟩ := R.out.to hb1); have hb1 := zH hb1; go_simp); (try (go_bits; try go_simp)); (first | done | (((go_at_call 57); refine (count_at x 3 _ hx (by rw [HD.out]; rfl)).mono ?_; rintro e w' ⟨rfl, hb⟩; exact ⟨rfl, bThen hb1.out hb⟩)) | (with_reducible rfl) | exact rfl))); (simp only [Act.put, zzT, zzO, zzS])))
        refine wpQuiet_nil ?_
        intro w1 hb1
        have R1 := R.out.to hb1
        have hcp := fun ty => copy_state w1 r (w.heap.size + 1) 2 (by simp) nv a0 a1 a2 a3 ty R1 (K1.out.to hb1) _ rfl
        have R2 := zH R1
        have hb1 := zH hb1
        clear R1
        go_wp2_with fail
        go_meet
        case rel =>
          have hn := HN0.out
          refine zH ⟨(((bThen HB.out hb1.out).setCell (p := ⟨r, 1, none⟩) (by dsimp only; omega) _).setCell (p := ⟨r, 2, none⟩) (by dsimp only; omega) _), ?_, (((K0.out.to hb1.out).other (p := ⟨r, 1, none⟩) (by dsimp only; omega) _).other (p := ⟨r, 2, none⟩) (by dsimp only; omega) _), (((K2.out.to hb1.out).other (p := ⟨r, 1, none⟩) (by dsimp only; omega) _).other (p := ⟨r, 2, none⟩) (by dsimp only; omega) _)⟩
          have h := ((R2.out.set 1 (.int .i64 a0)).set 2 (.int .i64 a1))
          have e : l4 (nextL x [a0, a1, a2, a3] nv) = (#[.int .i64 nv, .int .i64 a0, .int .i64 a1, .int .i64 0] : Array Value) := by simp [nextL, kp, gi, HD.out]
          rw [e]
          exact h
      · have HD := zH hd
        clear hd
        refine wp_region_quiet_tail 4 (fun w' => Below (World.heap wc).size (wc) w') (by kernel_rfl) (by kernel_rfl) (Below.refl _ _).drew ?_
        simp only [List.take_succ_cons, List.take_zero, List.drop_succ_cons, List.drop_zero]
        repeat (first | (refine wpQuiet_no (by rfl) ?_; (simp only [Act.put, zzT, zzO, zzS])) | (refine wpQuiet_yes (by rfl) ?_; apply Exists.intro; refine ⟨fun w1 hb1 => ?_, ?_⟩; (focus (((obtain ⟨-, k0, -⟩ := K0.out.to hb1; obtain ⟨-, k1, -⟩ := K1.out.to hb1; obtain ⟨-, k2, -⟩ := R.out.to hb1); have hb1 := zH hb1; go_simp); (try (go_bits; try go_simp)); (first | done | (((go_at_call 57); refine (count_at x 4 _ hx (by rw [HD.out]; rfl)).mono ?_; rintro e w' ⟨rfl, hb⟩; exact ⟨rfl, bThen hb1.out hb⟩)) | (with_reducible rfl) | exact rfl))); (simp only [Act.put, zzT, zzO, zzS])))
        refine wpQuiet_nil ?_
        intro w1 hb1
        have R1 := R.out.to hb1
        have hcp := fun ty => copy_state w1 r (w.heap.size + 1) 3 (by simp) nv a0 a1 a2 a3 ty R1 (K1.out.to hb1) _ rfl
        have R2 := zH R1
        have hb1 := zH hb1
        clear R1
        go_wp2_with fail
        go_meet
        case rel =>
          have hn := HN0.out
          refine zH ⟨((((bThen HB.out hb1.out).setCell (p := ⟨r, 1, none⟩) (by dsimp only; omega) _).setCell (p := ⟨r, 2, none⟩) (by dsimp only; omega) _).setCell (p := ⟨r, 3, none⟩) (by dsimp only; omega) _), ?_, ((((K0.out.to hb1.out).other (p := ⟨r, 1, none⟩) (by dsimp only; omega) _).other (p := ⟨r, 2, none⟩) (by dsimp only; omega) _).other (p := ⟨r, 3, none⟩) (by dsimp only; omega) _), ((((K2.out.to hb1.out).other (p := ⟨r, 1, none⟩) (by dsimp only; omega) _).other (p := ⟨r, 2, none⟩) (by dsimp only; omega) _).other (p := ⟨r, 3, none⟩) (by dsimp only; omega) _)⟩
          have h := (((R2.out.set 1 (.int .i64 a0)).set 2 (.int .i64 a1)).set 3 (.int .i64 a2))
          have e : l4 (nextL x [a0, a1, a2, a3] nv) = (#[.int .i64 nv, .int .i64 a0, .int .i64 a1, .int .i64 a2] : Array Value) := by simp [nextL, kp, gi, HD.out]
          rw [e]
          exact h
    case rest =>
      obtain ⟨HB', R', K0', K2'⟩ := hcut.out
      clear hcut K0 K1 K2 R HB
      have HB := zH HB'
      have R := zH R'
      have K0 := zH K0'
      have K2 := zH K2'
      clear HB' R' K0' K2'
      have b1 := hx.b1
      have b2 := hx.b2
      go_wp2_with fail
      refine wp_region_quiet_tail 7 (fun w' => Below (World.heap wc).size (wc) w') (by kernel_rfl) (by kernel_rfl) (Below.refl _ _).drew ?_
      simp only [List.take_succ_cons, List.take_zero, List.drop_succ_cons, List.drop_zero]
      repeat (first | (refine wpQuiet_no (by rfl) ?_; (simp only [Act.put, zzT, zzO, zzS])) | (refine wpQuiet_yes (by rfl) ?_; apply Exists.intro; refine ⟨fun w1 hb1 => ?_, ?_⟩; (focus (((obtain ⟨-, k0, -⟩ := K0.out.to hb1; obtain ⟨-, k2, -⟩ := R.out.to hb1); have hb1 := zH hb1; go_simp); (try (go_bits; try go_simp)); (first | done | (((go_at_call 53); refine (sized_any _ _ _ (by omega) (by omega)).mono ?_; rintro e w' ⟨rfl, rfl⟩; exact ⟨rfl, hb1.out⟩)) | (with_reducible rfl) | exact rfl))); (simp only [Act.put, zzT, zzO, zzS])))
      refine wpQuiet_nil ?_
      intro w1 hb1
      have K3 := K2.out.to hb1
      obtain ⟨-, k3, k3f⟩ := K3
      have K3 := zH (K2.out.to hb1)
      have hb1 := zH hb1
      go_wp2_with fail
      have hn := HN0.out
      have F : Blk _ (w.heap.size + 2) _ := (((K3.out.set 0 (.int .i64 (gi (nextL x [a0, a1, a2, a3] nv) 0))).set 1 (.int .i64 (gi (nextL x [a0, a1, a2, a3] nv) 1))).set 2 (.int .i64 (gi (nextL x [a0, a1, a2, a3] nv) 2))).set 3 (.int .i64 (gi (nextL x [a0, a1, a2, a3] nv) 3))
      have F0 := F.2.1 0
      have F1 := F.2.1 1
      have F2 := F.2.1 2
      have F3 := F.2.1 3
      have HF := zH F
      clear F k3 k3f
      refine bodyPost_ret (v := .tuple #[.agg (l4 (nextL x [a0, a1, a2, a3] nv)), .bool (decide (-x.b ≤ nv) && decide (nv ≤ x.b))]) ?_ rfl ⟨by rw [HNV.out], ?_⟩
      · simp [results, Try.results42, go_sem, F0, F1, F2, F3]
        rfl
      · exact ((((bThen HB.out hb1.out).setCell (p := ⟨w.heap.size + 1 + 1, 0, none⟩) (by dsimp only; omega) _).setCell (p := ⟨w.heap.size + 1 + 1, 1, none⟩) (by dsimp only; omega) _).setCell (p := ⟨w.heap.size + 1 + 1, 2, none⟩) (by dsimp only; omega) _).setCell (p := ⟨w.heap.size + 1 + 1, 3, none⟩) (by dsimp only; omega) _
end
end Go.Proofs.Ytfdlhhinomjakaa
