/-
  Texts of this claim, in their build order: OR4.
-/
import Derived.Test.YtjfedpblkejmkaaGreatCol41
import Derived.Test.YtjfedpblkejmkaaGreatCol35
import Derived.Test.YtjfedpblkejmkaaGreatCol34
import Derived.Test.YtjfedpblkejmkaaGreatCol33

/-
  The reference's columns: Square, Clear.
-/
namespace Go.Proofs.YtjfedpblkejmkaaGreat
open Go.RowKit
attribute [local go_sem] Oper.semAt_some

/-- Four cells of block b are written. -/
def st4 (W : World) (b : Nat) (x0 x1 x2 x3 : Value) : World := (((W.setCell ⟨b, 0, none⟩ x0).setCell ⟨b, 1, none⟩ x1).setCell ⟨b, 2, none⟩ x2).setCell ⟨b, 3, none⟩ x3
theorem below_st4 (W : World) {N b : Nat} (h : N ≤ b) (x0 x1 x2 x3 : Value) : Below N W (st4 W b x0 x1 x2 x3) :=
  ((((Below.refl _ _).setCell (p := ⟨b, 0, none⟩) h _).setCell (p := ⟨b, 1, none⟩) h _).setCell (p := ⟨b, 2, none⟩) h _).setCell (p := ⟨b, 3, none⟩) h _
theorem Blk.st4 {W : World} {b : Nat} {y0 y1 y2 y3 : Value} (h : Blk W b #[y0, y1, y2, y3]) (x0 x1 x2 x3 : Value) : Blk (st4 W b x0 x1 x2 x3) b #[x0, x1, x2, x3] :=
  (((h.set 0 x0).set 1 x1).set 2 x2).set 3 x3
theorem Blk.st4o {W : World} {b b' : Nat} {cs : Array Value} (h : Blk W b cs) (hb : b' ≠ b) (x0 x1 x2 x3 : Value) : Blk (Go.Proofs.YtjfedpblkejmkaaGreat.st4 W b' x0 x1 x2 x3) b cs :=
  (((h.other (p := ⟨b', 0, none⟩) hb x0).other (p := ⟨b', 1, none⟩) hb x1).other (p := ⟨b', 2, none⟩) hb x2).other (p := ⟨b', 3, none⟩) hb x3
theorem RR.st4 {W : World} {a1 a2 : Option Addr} {v : Value} {q : Int × Int} {b : Nat} (h : RR W a1 a2 v q) (hl : Loc (fun c => c ≠ b) a1 q.1 ∧ Loc (fun c => c ≠ b) a2 q.2) (x0 x1 x2 x3 : Value) : RR (Go.Proofs.YtjfedpblkejmkaaGreat.st4 W b x0 x1 x2 x3) a1 a2 v q :=
  (((h.set1 hl.1 hl.2 x0).set1 hl.1 hl.2 x1).set1 hl.1 hl.2 x2).set1 hl.1 hl.2 x3
theorem dg_few {n : Int} (h1 : -1000000000000 ≤ n) (h2 : n ≤ 1000000000000) : (dg n).length ≤ 50 := Nat.le_trans (dg_small 3 (Nat.lt_of_lt_of_le (show n.natAbs < 1000000000000000000 by omega) (by decide))) (by decide)
theorem dg_fr {q : Int × Int} (h : QOk q) : (dg (fr q.1 q.2).1).length ≤ 50 ∧ (dg (fr q.1 q.2).2).length ≤ 50 := ⟨dg_fr1 (dg_few (by have := h.n0; omega) (by have := h.n1; omega)), dg_fr2 (dg_few (by have := h.d0; omega) (by have := h.d1; omega))⟩
theorem RR.locNe {W : World} {a1 a2 : Option Addr} {v : Value} {q : Int × Int} (h : RR W a1 a2 v q) : Loc (fun c => c ≠ W.heap.size) a1 q.1 ∧ Loc (fun c => c ≠ W.heap.size) a2 q.2 := by
  obtain ⟨s1, n1, c1, s2, n2, c2, rfl, h1, h2⟩ := h
  exact ⟨h1.loc.imp (fun b hb => by omega), h2.loc.imp (fun b hb => by omega)⟩
/-- A fraction in a box. -/
def RBlk (W : World) (b : Nat) (q : Int × Int) : Prop :=
  ∃ a1 a2 s1 n1 c1 s2 n2 c2, Blk W b #[.int .i64 s1, .slice a1 n1 c1, .int .i64 s2, .slice a2 n2 c2] ∧ RR W a1 a2 (.agg #[.int .i64 s1, .slice a1 n1 c1, .int .i64 s2, .slice a2 n2 c2]) q
theorem RBlk.to {W W' : World} {b : Nat} {q : Int × Int} (h : RBlk W b q) (hb : Below W.heap.size W W') : RBlk W' b q := by
  obtain ⟨a1, a2, s1, n1, c1, s2, n2, c2, h1, h2⟩ := h
  exact ⟨a1, a2, s1, n1, c1, s2, n2, c2, h1.to hb, h2.to hb⟩

set_option maxHeartbeats 1600000 in
set_option maxRecDepth 100000 in
theorem rSquare_any (x y z m : Int) (w : World) (h : (1 ≤ x ∧ x ≤ 10000) ∧ (1 ≤ y ∧ y ≤ 10000) ∧ (1 ≤ z ∧ z ≤ 10000)) (hm : 1 ≤ m ∧ m ≤ 10000) :
    Calls Tryz.prog 103 #[.agg #[.int .i64 x, .int .i64 y, .int .i64 z], .int .i64 m] w fun e w1 => RPost [] (fr (4 * x * y) (z * m)) w e w1 := by
  obtain ⟨⟨x1, x2⟩, ⟨y1, y2⟩, z1, z2⟩ := h
  obtain ⟨m1, m2⟩ := hm
  have p1 := mul_bd (a := 4 * x) (b := y) (A := 40000) (B := 10000) (by omega) (by omega) (by omega) (by omega)
  obtain ⟨p1a, p1b⟩ := p1
  have p2 := mul_bd (a := z) (b := m) (A := 10000) (B := 10000) (by omega) (by omega) (by omega) (by omega)
  obtain ⟨p2a, p2b⟩ := p2
  have p4 : 0 < z * m := Int.mul_pos (by omega) (by omega)
  have HR := Lib.hid (fun W => RatioOf_any (4 * x * y) (z * m) W (by omega) (by omega) p4 (by omega))
  go_enter Tryz.func103, Tryz.ntmps103
  go_wp2_with fail
  obtain ⟨W, hW⟩ : ∃ W, (w.alloc (.cells #[.int .i64 x, .int .i64 y, .int .i64 z] 23)).alloc (.cells #[.int .i64 0, .slice none 0 0, .int .i64 0, .slice none 0 0] 112) = W := ⟨_, rfl⟩
  rw [hW]
  have K4 : Hid (Blk W (w.heap.size + 1) #[.int .i64 0, .slice none 0 0, .int .i64 0, .slice none 0 0]) := by subst hW; exact Lib.hid (Blk.newAt _ _ _ (by simp))
  have HB : Hid (Below w.heap.size w W) := by subst hW; exact Lib.hid (bAlloc (bAlloc (bSelf w) _) _)
  clear hW
  refine (HR.out _).mono ?_
  rintro e w1 ⟨a1, a2, v, rfl, hrr, hb, hloc⟩
  have HL := Lib.hid (fun (P : Nat → Prop) (h : ∀ b, W.heap.size ≤ b → P b) => hloc P h (fun i hi => by cases hi))
  have HLB := Lib.hid (HL.out (fun c => c ≠ w.heap.size + 1) (fun b hb => by have := K4.out.1; omega))
  have HRR := Lib.hid hrr
  replace K4 := Lib.hid (K4.out.to hb)
  have HWS : Hid (w.heap.size ≤ W.heap.size) := Lib.hid HB.out.size
  replace HB := Lib.hid (bThen HB.out hb)
  obtain ⟨s1, n1, c1, s2, n2, c2, rfl, -, -⟩ := hrr.ex
  clear hb hloc hrr
  obtain ⟨-, k4, f4⟩ := K4.out
  go_wp2_with fail
  clear k4 f4
  have F := (K4.out.st4 (.int .i64 s1) (.slice a1 n1 c1) (.int .i64 s2) (.slice a2 n2 c2)).2.1
  have F0 := F 0; have F1 := F 1; have F2 := F 2; have F3 := F 3
  unfold st4 at F0 F1 F2 F3
  clear F
  have HP : Hid (RPost [] (fr (4 * x * y) (z * m)) w (.returned (.agg #[.int .i64 s1, .slice a1 n1 c1, .int .i64 s2, .slice a2 n2 c2])) (st4 w1 (w.heap.size + 1) (.int .i64 s1) (.slice a1 n1 c1) (.int .i64 s2) (.slice a2 n2 c2))) := Lib.hid
    ⟨a1, a2, _, rfl, HRR.out.st4 HLB.out _ _ _ _, HB.out.trans (below_st4 w1 (Nat.le_succ _) _ _ _ _), fun P hf _ => HL.out P (fun b hb => hf b (by have := HWS.out; omega))⟩
  refine bodyPost_ret (v := .agg #[.int .i64 s1, .slice a1 n1 c1, .int .i64 s2, .slice a2 n2 c2]) ?_ rfl HP.out
  simp [results, Tryz.results103, go_sem, F0, F1, F2, F3]

set_option maxHeartbeats 12800000 in
set_option maxRecDepth 100000 in
theorem rClear_any (x y z a b lo hi : Int) (w : World) (h : clrE x y z a b lo hi = 0) :
    Calls Tryz.prog 20 #[.agg #[.int .i64 x, .int .i64 y, .int .i64 z], .agg #[.int .i64 a, .int .i64 b], .agg #[.int .i64 lo, .int .i64 hi]] w fun e w' => e = .returned (.int .i64 (clrR (fr (sqrQ x y z b).1 (sqrQ x y z b).2) (fr (sqrQ x y z a).1 (sqrQ x y z a).2) lo hi)) ∧ Below w.heap.size w w' := by
  have HS1 := Lib.hid (fun W => rSquare_any x y z b W (clrE_ok h).1 (by have := (clrE_ok h).2.1; omega))
  have HS2 := Lib.hid (fun W => rSquare_any x y z a W (clrE_ok h).1 (by have := (clrE_ok h).2.1; omega))
  have hbd := (clrE_ok h).2.2
  have HI1 := Lib.hid (fun W => RatioInt_any lo W (by omega) (by omega))
  have HI2 := Lib.hid (fun W => RatioInt_any hi W (by omega) (by omega))
  have HQ1 : Hid ((dg (fr (4 * x * y) (z * b)).1).length ≤ 50 ∧ (dg (fr (4 * x * y) (z * b)).2).length ≤ 50) := Lib.hid (dg_fr (sqr_ok (clrE_ok h).1 (by have := (clrE_ok h).2.1; omega)))
  have HQ2 : Hid ((dg (fr (4 * x * y) (z * a)).1).length ≤ 50 ∧ (dg (fr (4 * x * y) (z * a)).2).length ≤ 50) := Lib.hid (dg_fr (sqr_ok (clrE_ok h).1 (by have := (clrE_ok h).2.1; omega)))
  have HI3 : Hid ((dg lo).length ≤ 50 ∧ (dg hi).length ≤ 50 ∧ (dg 1).length ≤ 50) := Lib.hid ⟨dg_few (by omega) (by omega), dg_few (by omega) (by omega), dg_few (by omega) (by omega)⟩
  have HV : Hid (clrR (fr (sqrQ x y z b).1 (sqrQ x y z b).2) (fr (sqrQ x y z a).1 (sqrQ x y z a).2) lo hi = if (decide (cmpQ (fr (4 * x * y) (z * a)) (lo, 1) < 0) || decide (0 < cmpQ (fr (4 * x * y) (z * b)) (hi, 1))) = true then 2 else if (decide (0 ≤ cmpQ (fr (4 * x * y) (z * b)) (lo, 1)) && decide (cmpQ (fr (4 * x * y) (z * a)) (hi, 1) ≤ 0)) = true then 0 else 1) := Lib.hid rfl
  obtain ⟨r, hr⟩ : ∃ r, clrR (fr (sqrQ x y z b).1 (sqrQ x y z b).2) (fr (sqrQ x y z a).1 (sqrQ x y z a).2) lo hi = r := ⟨_, rfl⟩
  rw [hr] at HV ⊢
  obtain ⟨⟨p1, p2⟩, hp⟩ : ∃ q, fr (4 * x * y) (z * b) = q := ⟨_, rfl⟩
  obtain ⟨⟨q1, q2⟩, hq⟩ : ∃ q, fr (4 * x * y) (z * a) = q := ⟨_, rfl⟩
  rw [hp] at HS1 HQ1 HV
  rw [hq] at HS2 HQ2 HV
  clear hr hp hq hbd h
  go_enter Tryz.func20, Tryz.ntmps20
  go_wp2_with fail
  obtain ⟨W, hW⟩ : ∃ W, ((w.alloc (.cells #[.int .i64 x, .int .i64 y, .int .i64 z] 23)).alloc (.cells #[.int .i64 a, .int .i64 b] 25)).alloc (.cells #[.int .i64 lo, .int .i64 hi] 25) = W := ⟨_, rfl⟩
  rw [hW]
  have K3 : Hid (Blk W w.heap.size #[.int .i64 x, .int .i64 y, .int .i64 z]) := by subst hW; exact Lib.hid (((Blk.new _ _ _).alloc _).alloc _)
  have K4 : Hid (Blk W (w.heap.size + 1) #[.int .i64 a, .int .i64 b]) := by subst hW; exact Lib.hid ((Blk.newAt _ _ _ (by simp)).alloc _)
  have K5 : Hid (Blk W (w.heap.size + 1 + 1) #[.int .i64 lo, .int .i64 hi]) := by subst hW; exact Lib.hid (Blk.newAt _ _ _ (by simp))
  have HB : Hid (Below w.heap.size w W) := by subst hW; exact Lib.hid (bAlloc (bAlloc (bAlloc (bSelf w) _) _) _)
  clear hW
  go_cut [7, 8] from 11 to 18 (fun s7 s8 wc => ∃ BA BZ, s7 = .pointer (some ⟨BA, 0, none⟩) ∧ s8 = .pointer (some ⟨BZ, 0, none⟩) ∧ Hid (RBlk wc BA (p1, p2)) ∧ Hid (RBlk wc BZ (q1, q2)) ∧ Hid (Below W.heap.size W wc))
  case first =>
    refine wp_region_tree (by kernel_rfl) (fun wd hwd => ?_)
    have T := Lib.hid hwd
    clear hwd
    refine WT_yes 0 rfl (by kernel_rfl) (fun _ _ _ _ _ h => h) (by rfl) ?_; apply Exists.intro; refine ⟨fun w1 hb1 => ?_, ?_⟩; (focus (((obtain ⟨-, k3, -⟩ := K3.out.to (T.out.trans hb1)); have hb1 := Lib.hid hb1; go_simp); (try (go_bits; try go_simp)); (try (rw [if_pos (by omega)]; try go_simp)); (first | done | (fail) | (with_reducible rfl) | exact rfl)))
    simp only [Act.put, List.setIfInBounds_toArray, List.set_cons_zero, List.set_cons_succ]
    refine WT_yes 1 rfl (by kernel_rfl) (fun _ _ _ _ _ h => h) (by rfl) ?_; apply Exists.intro; refine ⟨fun w1 hb1 => ?_, ?_⟩; (focus ((skip; have hb1 := Lib.hid hb1; go_simp); (try (go_bits; try go_simp)); (try (rw [if_pos (by omega)]; try go_simp)); (first | done | (fail) | (with_reducible rfl) | exact rfl)))
    simp only [Act.put, List.setIfInBounds_toArray, List.set_cons_zero, List.set_cons_succ]
    refine WT_yes 2 rfl (by kernel_rfl) (fun _ _ _ _ _ h => h) (by rfl) ?_; apply Exists.intro; refine ⟨fun w1 hb1 => ?_, ?_⟩; (focus (((obtain ⟨-, k4, -⟩ := K4.out.to (T.out.trans hb1)); have hb1 := Lib.hid hb1; go_simp); (try (go_bits; try go_simp)); (try (rw [if_pos (by omega)]; try go_simp)); (first | done | (fail) | (with_reducible rfl) | exact rfl)))
    simp only [Act.put, List.setIfInBounds_toArray, List.set_cons_zero, List.set_cons_succ]
    refine WT_yes 4 rfl (by kernel_rfl) (fun _ _ _ _ _ h => h) (by rfl) ?_; apply Exists.intro; refine ⟨fun w1 hb1 => ?_, ?_⟩; (focus (((obtain ⟨-, k3, -⟩ := K3.out.to (T.out.trans hb1)); have hb1 := Lib.hid hb1; go_simp); (try (go_bits; try go_simp)); (try (rw [if_pos (by omega)]; try go_simp)); (first | done | (fail) | (with_reducible rfl) | exact rfl)))
    simp only [Act.put, List.setIfInBounds_toArray, List.set_cons_zero, List.set_cons_succ]
    refine WT_yes 5 rfl (by kernel_rfl) (fun _ _ _ _ _ h => h) (by rfl) ?_; apply Exists.intro; refine ⟨fun w1 hb1 => ?_, ?_⟩; (focus ((skip; have hb1 := Lib.hid hb1; go_simp); (try (go_bits; try go_simp)); (try (rw [if_pos (by omega)]; try go_simp)); (first | done | (fail) | (with_reducible rfl) | exact rfl)))
    simp only [Act.put, List.setIfInBounds_toArray, List.set_cons_zero, List.set_cons_succ]
    refine WT_yes 6 rfl (by kernel_rfl) (fun _ _ _ _ _ h => h) (by rfl) ?_; apply Exists.intro; refine ⟨fun w1 hb1 => ?_, ?_⟩; (focus (((obtain ⟨-, k4, -⟩ := K4.out.to (T.out.trans hb1)); have hb1 := Lib.hid hb1; go_simp); (try (go_bits; try go_simp)); (try (rw [if_pos (by omega)]; try go_simp)); (first | done | (fail) | (with_reducible rfl) | exact rfl)))
    simp only [Act.put, List.setIfInBounds_toArray, List.set_cons_zero, List.set_cons_succ]
    refine WT_three 3 8 9 rfl rfl rfl (by kernel_rfl) ?_ ?_ ?_
    · unfold stepT
      go_wp2_with fail
      refine (HS1.out _).mono ?_
      rintro e u1 ⟨a1, b1, v1, rfl, hrr, hb, hloc⟩
      have HL := Lib.hid (fun (P : Nat → Prop) (h : ∀ b, wd.heap.size ≤ b → P b) => hloc P h (fun i hi => by cases hi))
      have HR1 := Lib.hid hrr
      have hbd := Lib.hid (hb.mono T.out.size)
      replace T := Lib.hid (bThen T.out hb)
      obtain ⟨s1, n1, c1, t1, m1, d1, rfl, -, -⟩ := hrr.ex
      clear hb hloc HL hrr
      go_wp2_with fail
      refine ⟨hbd.out, ?_⟩
      clear hbd
      refine WT_three 7 8 9 rfl rfl rfl (by kernel_rfl) ?_ ?_ ?_
      · unfold stepT
        go_wp2_with fail
        refine (HS2.out _).mono ?_
        rintro e u2 ⟨a2, b2, v2, rfl, hrr, hb, hloc⟩
        have HL := Lib.hid (fun (P : Nat → Prop) (h : ∀ b, u1.heap.size ≤ b → P b) => hloc P h (fun i hi => by cases hi))
        replace HR1 := Lib.hid (HR1.out.to hb)
        have HR2 := Lib.hid hrr
        have hbd := Lib.hid (hb.mono T.out.size)
        replace T := Lib.hid (bThen T.out hb)
        obtain ⟨s2, n2, c2, t2, m2, d2, rfl, -, -⟩ := hrr.ex
        clear hb hloc HL hrr
        go_wp2_with fail
        refine ⟨hbd.out, ?_⟩
        clear hbd
        refine WT_two 8 9 rfl rfl (by kernel_rfl) ?_ ?_
        · unfold stepT
          go_wp2_with fail
          have LBA1 : Hid (Loc (fun c => c ≠ u2.heap.size) a1 _ ∧ Loc (fun c => c ≠ u2.heap.size) b1 _) := Lib.hid (HR1.out.locNe)
          have LBA2 : Hid (Loc (fun c => c ≠ u2.heap.size) a2 _ ∧ Loc (fun c => c ≠ u2.heap.size) b2 _) := Lib.hid (HR2.out.locNe)
          obtain ⟨u3, hwA⟩ : ∃ wA, u2.alloc (.cells #[.int .i64 0, .slice none 0 0, .int .i64 0, .slice none 0 0] 112) = wA := ⟨_, rfl⟩
          rw [hwA]
          have hb : Below u2.heap.size u2 u3 := by subst hwA; exact bAlloc (bSelf _) _
          replace HR1 := Lib.hid (HR1.out.to hb)
          replace HR2 := Lib.hid (HR2.out.to hb)
          have KBA : Hid (Blk u3 u2.heap.size #[.int .i64 0, .slice none 0 0, .int .i64 0, .slice none 0 0]) := by subst hwA; exact Blk.new _ _ _
          clear hwA
          have BAN : Hid (W.heap.size ≤ u2.heap.size) := Lib.hid T.out.size
          obtain ⟨BA, hBA⟩ : ∃ N, u2.heap.size = N := ⟨_, rfl⟩
          have hbd := Lib.hid (hb.mono T.out.size)
          replace T := Lib.hid (bThen T.out hb)
          clear hb
          rw [hBA] at KBA BAN LBA1 LBA2 ⊢
          clear hBA
          refine ⟨hbd.out, ?_⟩
          clear hbd
          refine WT_one 9 rfl (by kernel_rfl) ?_
          unfold stepT
          go_wp2_with fail
          have LBZ1 : Hid (Loc (fun c => c ≠ u3.heap.size) a1 _ ∧ Loc (fun c => c ≠ u3.heap.size) b1 _) := Lib.hid (HR1.out.locNe)
          have LBZ2 : Hid (Loc (fun c => c ≠ u3.heap.size) a2 _ ∧ Loc (fun c => c ≠ u3.heap.size) b2 _) := Lib.hid (HR2.out.locNe)
          have neBABZ : Hid (BA ≠ u3.heap.size) := Lib.hid (by have := KBA.out.1; omega)
          obtain ⟨u4, hwA⟩ : ∃ wA, u3.alloc (.cells #[.int .i64 0, .slice none 0 0, .int .i64 0, .slice none 0 0] 112) = wA := ⟨_, rfl⟩
          rw [hwA]
          have hb : Below u3.heap.size u3 u4 := by subst hwA; exact bAlloc (bSelf _) _
          replace HR1 := Lib.hid (HR1.out.to hb)
          replace HR2 := Lib.hid (HR2.out.to hb)
          replace KBA := Lib.hid (KBA.out.to hb)
          have KBZ : Hid (Blk u4 u3.heap.size #[.int .i64 0, .slice none 0 0, .int .i64 0, .slice none 0 0]) := by subst hwA; exact Blk.new _ _ _
          clear hwA
          have BZN : Hid (W.heap.size ≤ u3.heap.size) := Lib.hid T.out.size
          obtain ⟨BZ, hBZ⟩ : ∃ N, u3.heap.size = N := ⟨_, rfl⟩
          have hbd := Lib.hid (hb.mono T.out.size)
          replace T := Lib.hid (bThen T.out hb)
          clear hb
          rw [hBZ] at KBZ BZN LBZ1 LBZ2 neBABZ ⊢
          clear hBZ
          refine ⟨hbd.out, ?_⟩
          clear hbd
          refine WT_one 10 rfl (by kernel_rfl) ?_
          unfold stepT
          obtain ⟨-, kx, fx⟩ := KBA.out
          go_wp2_with fail
          clear kx fx
          obtain ⟨u5, hu⟩ : ∃ u, st4 u4 BA (.int .i64 s1) (.slice a1 n1 c1) (.int .i64 t1) (.slice b1 m1 d1) = u := ⟨_, rfl⟩
          have hb := below_st4 u4 BAN.out (.int .i64 s1) (.slice a1 n1 c1) (.int .i64 t1) (.slice b1 m1 d1)
          have hBA := KBA.out.st4 (.int .i64 s1) (.slice a1 n1 c1) (.int .i64 t1) (.slice b1 m1 d1)
          have hBZ := KBZ.out.st4o (b' := BA) (by first | exact neBABZ.out | exact fun e => neBZBA.out e.symm) (.int .i64 s1) (.slice a1 n1 c1) (.int .i64 t1) (.slice b1 m1 d1)
          have h1 := HR1.out.st4 LBA1.out (.int .i64 s1) (.slice a1 n1 c1) (.int .i64 t1) (.slice b1 m1 d1)
          have h2 := HR2.out.st4 LBA2.out (.int .i64 s1) (.slice a1 n1 c1) (.int .i64 t1) (.slice b1 m1 d1)
          rw [hu] at hb hBA hBZ h1 h2
          unfold st4 at hu
          rw [hu]
          replace KBA := Lib.hid hBA
          replace KBZ := Lib.hid hBZ
          replace HR1 := Lib.hid h1
          replace HR2 := Lib.hid h2
          clear hBA hBZ h1 h2 hu
          replace T := Lib.hid (T.out.trans hb)
          refine ⟨hb, ?_⟩
          clear hb
          refine WT_one 11 rfl (by kernel_rfl) ?_
          unfold stepT
          obtain ⟨-, kx, fx⟩ := KBZ.out
          go_wp2_with fail
          clear kx fx
          obtain ⟨u6, hu⟩ : ∃ u, st4 u5 BZ (.int .i64 s2) (.slice a2 n2 c2) (.int .i64 t2) (.slice b2 m2 d2) = u := ⟨_, rfl⟩
          have hb := below_st4 u5 BZN.out (.int .i64 s2) (.slice a2 n2 c2) (.int .i64 t2) (.slice b2 m2 d2)
          have hBA := KBA.out.st4o (b' := BZ) (by first | exact neBZBA.out | exact fun e => neBABZ.out e.symm) (.int .i64 s2) (.slice a2 n2 c2) (.int .i64 t2) (.slice b2 m2 d2)
          have hBZ := KBZ.out.st4 (.int .i64 s2) (.slice a2 n2 c2) (.int .i64 t2) (.slice b2 m2 d2)
          have h1 := HR1.out.st4 LBZ1.out (.int .i64 s2) (.slice a2 n2 c2) (.int .i64 t2) (.slice b2 m2 d2)
          have h2 := HR2.out.st4 LBZ2.out (.int .i64 s2) (.slice a2 n2 c2) (.int .i64 t2) (.slice b2 m2 d2)
          rw [hu] at hb hBA hBZ h1 h2
          unfold st4 at hu
          rw [hu]
          replace KBA := Lib.hid hBA
          replace KBZ := Lib.hid hBZ
          replace HR1 := Lib.hid h1
          replace HR2 := Lib.hid h2
          clear hBA hBZ h1 h2 hu
          replace T := Lib.hid (T.out.trans hb)
          refine ⟨hb, ?_⟩
          clear hb
          refine WT_done (by kernel_rfl) ?_
          go_wp2_with fail
          go_meet
          case rel => exact ⟨BA, BZ, rfl, rfl, Lib.hid ⟨_, _, _, _, _, _, _, _, KBA.out, HR1.out⟩, Lib.hid ⟨_, _, _, _, _, _, _, _, KBZ.out, HR2.out⟩, T⟩
        · unfold stepT
          go_wp2_with fail
          have LBZ1 : Hid (Loc (fun c => c ≠ u2.heap.size) a1 _ ∧ Loc (fun c => c ≠ u2.heap.size) b1 _) := Lib.hid (HR1.out.locNe)
          have LBZ2 : Hid (Loc (fun c => c ≠ u2.heap.size) a2 _ ∧ Loc (fun c => c ≠ u2.heap.size) b2 _) := Lib.hid (HR2.out.locNe)
          obtain ⟨u3, hwA⟩ : ∃ wA, u2.alloc (.cells #[.int .i64 0, .slice none 0 0, .int .i64 0, .slice none 0 0] 112) = wA := ⟨_, rfl⟩
          rw [hwA]
          have hb : Below u2.heap.size u2 u3 := by subst hwA; exact bAlloc (bSelf _) _
          replace HR1 := Lib.hid (HR1.out.to hb)
          replace HR2 := Lib.hid (HR2.out.to hb)
          have KBZ : Hid (Blk u3 u2.heap.size #[.int .i64 0, .slice none 0 0, .int .i64 0, .slice none 0 0]) := by subst hwA; exact Blk.new _ _ _
          clear hwA
          have BZN : Hid (W.heap.size ≤ u2.heap.size) := Lib.hid T.out.size
          obtain ⟨BZ, hBZ⟩ : ∃ N, u2.heap.size = N := ⟨_, rfl⟩
          have hbd := Lib.hid (hb.mono T.out.size)
          replace T := Lib.hid (bThen T.out hb)
          clear hb
          rw [hBZ] at KBZ BZN LBZ1 LBZ2 ⊢
          clear hBZ
          refine ⟨hbd.out, ?_⟩
          clear hbd
          refine WT_one 8 rfl (by kernel_rfl) ?_
          unfold stepT
          go_wp2_with fail
          have LBA1 : Hid (Loc (fun c => c ≠ u3.heap.size) a1 _ ∧ Loc (fun c => c ≠ u3.heap.size) b1 _) := Lib.hid (HR1.out.locNe)
          have LBA2 : Hid (Loc (fun c => c ≠ u3.heap.size) a2 _ ∧ Loc (fun c => c ≠ u3.heap.size) b2 _) := Lib.hid (HR2.out.locNe)
          have neBZBA : Hid (BZ ≠ u3.heap.size) := Lib.hid (by have := KBZ.out.1; omega)
          obtain ⟨u4, hwA⟩ : ∃ wA, u3.alloc (.cells #[.int .i64 0, .slice none 0 0, .int .i64 0, .slice none 0 0] 112) = wA := ⟨_, rfl⟩
          rw [hwA]
          have hb : Below u3.heap.size u3 u4 := by subst hwA; exact bAlloc (bSelf _) _
          replace HR1 := Lib.hid (HR1.out.to hb)
          replace HR2 := Lib.hid (HR2.out.to hb)
          replace KBZ := Lib.hid (KBZ.out.to hb)
          have KBA : Hid (Blk u4 u3.heap.size #[.int .i64 0, .slice none 0 0, .int .i64 0, .slice none 0 0]) := by subst hwA; exact Blk.new _ _ _
          clear hwA
          have BAN : Hid (W.heap.size ≤ u3.heap.size) := Lib.hid T.out.size
          obtain ⟨BA, hBA⟩ : ∃ N, u3.heap.size = N := ⟨_, rfl⟩
          have hbd := Lib.hid (hb.mono T.out.size)
          replace T := Lib.hid (bThen T.out hb)
          clear hb
          rw [hBA] at KBA BAN LBA1 LBA2 neBZBA ⊢
          clear hBA
          refine ⟨hbd.out, ?_⟩
          clear hbd
          refine WT_one 10 rfl (by kernel_rfl) ?_
          unfold stepT
          obtain ⟨-, kx, fx⟩ := KBA.out
          go_wp2_with fail
          clear kx fx
          obtain ⟨u5, hu⟩ : ∃ u, st4 u4 BA (.int .i64 s1) (.slice a1 n1 c1) (.int .i64 t1) (.slice b1 m1 d1) = u := ⟨_, rfl⟩
          have hb := below_st4 u4 BAN.out (.int .i64 s1) (.slice a1 n1 c1) (.int .i64 t1) (.slice b1 m1 d1)
          have hBZ := KBZ.out.st4o (b' := BA) (by first | exact neBABZ.out | exact fun e => neBZBA.out e.symm) (.int .i64 s1) (.slice a1 n1 c1) (.int .i64 t1) (.slice b1 m1 d1)
          have hBA := KBA.out.st4 (.int .i64 s1) (.slice a1 n1 c1) (.int .i64 t1) (.slice b1 m1 d1)
          have h1 := HR1.out.st4 LBA1.out (.int .i64 s1) (.slice a1 n1 c1) (.int .i64 t1) (.slice b1 m1 d1)
          have h2 := HR2.out.st4 LBA2.out (.int .i64 s1) (.slice a1 n1 c1) (.int .i64 t1) (.slice b1 m1 d1)
          rw [hu] at hb hBZ hBA h1 h2
          unfold st4 at hu
          rw [hu]
          replace KBZ := Lib.hid hBZ
          replace KBA := Lib.hid hBA
          replace HR1 := Lib.hid h1
          replace HR2 := Lib.hid h2
          clear hBZ hBA h1 h2 hu
          replace T := Lib.hid (T.out.trans hb)
          refine ⟨hb, ?_⟩
          clear hb
          refine WT_one 11 rfl (by kernel_rfl) ?_
          unfold stepT
          obtain ⟨-, kx, fx⟩ := KBZ.out
          go_wp2_with fail
          clear kx fx
          obtain ⟨u6, hu⟩ : ∃ u, st4 u5 BZ (.int .i64 s2) (.slice a2 n2 c2) (.int .i64 t2) (.slice b2 m2 d2) = u := ⟨_, rfl⟩
          have hb := below_st4 u5 BZN.out (.int .i64 s2) (.slice a2 n2 c2) (.int .i64 t2) (.slice b2 m2 d2)
          have hBZ := KBZ.out.st4 (.int .i64 s2) (.slice a2 n2 c2) (.int .i64 t2) (.slice b2 m2 d2)
          have hBA := KBA.out.st4o (b' := BZ) (by first | exact neBZBA.out | exact fun e => neBABZ.out e.symm) (.int .i64 s2) (.slice a2 n2 c2) (.int .i64 t2) (.slice b2 m2 d2)
          have h1 := HR1.out.st4 LBZ1.out (.int .i64 s2) (.slice a2 n2 c2) (.int .i64 t2) (.slice b2 m2 d2)
          have h2 := HR2.out.st4 LBZ2.out (.int .i64 s2) (.slice a2 n2 c2) (.int .i64 t2) (.slice b2 m2 d2)
          rw [hu] at hb hBZ hBA h1 h2
          unfold st4 at hu
          rw [hu]
          replace KBZ := Lib.hid hBZ
          replace KBA := Lib.hid hBA
          replace HR1 := Lib.hid h1
          replace HR2 := Lib.hid h2
          clear hBZ hBA h1 h2 hu
          replace T := Lib.hid (T.out.trans hb)
          refine ⟨hb, ?_⟩
          clear hb
          refine WT_done (by kernel_rfl) ?_
          go_wp2_with fail
          go_meet
          case rel => exact ⟨BA, BZ, rfl, rfl, Lib.hid ⟨_, _, _, _, _, _, _, _, KBA.out, HR1.out⟩, Lib.hid ⟨_, _, _, _, _, _, _, _, KBZ.out, HR2.out⟩, T⟩
      · unfold stepT
        go_wp2_with fail
        have LBA1 : Hid (Loc (fun c => c ≠ u1.heap.size) a1 _ ∧ Loc (fun c => c ≠ u1.heap.size) b1 _) := Lib.hid (HR1.out.locNe)
        obtain ⟨u2, hwA⟩ : ∃ wA, u1.alloc (.cells #[.int .i64 0, .slice none 0 0, .int .i64 0, .slice none 0 0] 112) = wA := ⟨_, rfl⟩
        rw [hwA]
        have hb : Below u1.heap.size u1 u2 := by subst hwA; exact bAlloc (bSelf _) _
        replace HR1 := Lib.hid (HR1.out.to hb)
        have KBA : Hid (Blk u2 u1.heap.size #[.int .i64 0, .slice none 0 0, .int .i64 0, .slice none 0 0]) := by subst hwA; exact Blk.new _ _ _
        clear hwA
        have BAN : Hid (W.heap.size ≤ u1.heap.size) := Lib.hid T.out.size
        obtain ⟨BA, hBA⟩ : ∃ N, u1.heap.size = N := ⟨_, rfl⟩
        have hbd := Lib.hid (hb.mono T.out.size)
        replace T := Lib.hid (bThen T.out hb)
        clear hb
        rw [hBA] at KBA BAN LBA1 ⊢
        clear hBA
        refine ⟨hbd.out, ?_⟩
        clear hbd
        refine WT_two 7 9 rfl rfl (by kernel_rfl) ?_ ?_
        · unfold stepT
          go_wp2_with fail
          refine (HS2.out _).mono ?_
          rintro e u3 ⟨a2, b2, v2, rfl, hrr, hb, hloc⟩
          have HL := Lib.hid (fun (P : Nat → Prop) (h : ∀ b, u2.heap.size ≤ b → P b) => hloc P h (fun i hi => by cases hi))
          have LBA2 := Lib.hid (HL.out (fun c => c ≠ BA) (fun b hb => by have := KBA.out.1; omega))
          replace HR1 := Lib.hid (HR1.out.to hb)
          replace KBA := Lib.hid (KBA.out.to hb)
          have HR2 := Lib.hid hrr
          have hbd := Lib.hid (hb.mono T.out.size)
          replace T := Lib.hid (bThen T.out hb)
          obtain ⟨s2, n2, c2, t2, m2, d2, rfl, -, -⟩ := hrr.ex
          clear hb hloc HL hrr
          go_wp2_with fail
          refine ⟨hbd.out, ?_⟩
          clear hbd
          refine WT_one 9 rfl (by kernel_rfl) ?_
          unfold stepT
          go_wp2_with fail
          have LBZ1 : Hid (Loc (fun c => c ≠ u3.heap.size) a1 _ ∧ Loc (fun c => c ≠ u3.heap.size) b1 _) := Lib.hid (HR1.out.locNe)
          have LBZ2 : Hid (Loc (fun c => c ≠ u3.heap.size) a2 _ ∧ Loc (fun c => c ≠ u3.heap.size) b2 _) := Lib.hid (HR2.out.locNe)
          have neBABZ : Hid (BA ≠ u3.heap.size) := Lib.hid (by have := KBA.out.1; omega)
          obtain ⟨u4, hwA⟩ : ∃ wA, u3.alloc (.cells #[.int .i64 0, .slice none 0 0, .int .i64 0, .slice none 0 0] 112) = wA := ⟨_, rfl⟩
          rw [hwA]
          have hb : Below u3.heap.size u3 u4 := by subst hwA; exact bAlloc (bSelf _) _
          replace HR1 := Lib.hid (HR1.out.to hb)
          replace HR2 := Lib.hid (HR2.out.to hb)
          replace KBA := Lib.hid (KBA.out.to hb)
          have KBZ : Hid (Blk u4 u3.heap.size #[.int .i64 0, .slice none 0 0, .int .i64 0, .slice none 0 0]) := by subst hwA; exact Blk.new _ _ _
          clear hwA
          have BZN : Hid (W.heap.size ≤ u3.heap.size) := Lib.hid T.out.size
          obtain ⟨BZ, hBZ⟩ : ∃ N, u3.heap.size = N := ⟨_, rfl⟩
          have hbd := Lib.hid (hb.mono T.out.size)
          replace T := Lib.hid (bThen T.out hb)
          clear hb
          rw [hBZ] at KBZ BZN LBZ1 LBZ2 neBABZ ⊢
          clear hBZ
          refine ⟨hbd.out, ?_⟩
          clear hbd
          refine WT_one 10 rfl (by kernel_rfl) ?_
          unfold stepT
          obtain ⟨-, kx, fx⟩ := KBA.out
          go_wp2_with fail
          clear kx fx
          obtain ⟨u5, hu⟩ : ∃ u, st4 u4 BA (.int .i64 s1) (.slice a1 n1 c1) (.int .i64 t1) (.slice b1 m1 d1) = u := ⟨_, rfl⟩
          have hb := below_st4 u4 BAN.out (.int .i64 s1) (.slice a1 n1 c1) (.int .i64 t1) (.slice b1 m1 d1)
          have hBA := KBA.out.st4 (.int .i64 s1) (.slice a1 n1 c1) (.int .i64 t1) (.slice b1 m1 d1)
          have hBZ := KBZ.out.st4o (b' := BA) (by first | exact neBABZ.out | exact fun e => neBZBA.out e.symm) (.int .i64 s1) (.slice a1 n1 c1) (.int .i64 t1) (.slice b1 m1 d1)
          have h1 := HR1.out.st4 LBA1.out (.int .i64 s1) (.slice a1 n1 c1) (.int .i64 t1) (.slice b1 m1 d1)
          have h2 := HR2.out.st4 LBA2.out (.int .i64 s1) (.slice a1 n1 c1) (.int .i64 t1) (.slice b1 m1 d1)
          rw [hu] at hb hBA hBZ h1 h2
          unfold st4 at hu
          rw [hu]
          replace KBA := Lib.hid hBA
          replace KBZ := Lib.hid hBZ
          replace HR1 := Lib.hid h1
          replace HR2 := Lib.hid h2
          clear hBA hBZ h1 h2 hu
          replace T := Lib.hid (T.out.trans hb)
          refine ⟨hb, ?_⟩
          clear hb
          refine WT_one 11 rfl (by kernel_rfl) ?_
          unfold stepT
          obtain ⟨-, kx, fx⟩ := KBZ.out
          go_wp2_with fail
          clear kx fx
          obtain ⟨u6, hu⟩ : ∃ u, st4 u5 BZ (.int .i64 s2) (.slice a2 n2 c2) (.int .i64 t2) (.slice b2 m2 d2) = u := ⟨_, rfl⟩
          have hb := below_st4 u5 BZN.out (.int .i64 s2) (.slice a2 n2 c2) (.int .i64 t2) (.slice b2 m2 d2)
          have hBA := KBA.out.st4o (b' := BZ) (by first | exact neBZBA.out | exact fun e => neBABZ.out e.symm) (.int .i64 s2) (.slice a2 n2 c2) (.int .i64 t2) (.slice b2 m2 d2)
          have hBZ := KBZ.out.st4 (.int .i64 s2) (.slice a2 n2 c2) (.int .i64 t2) (.slice b2 m2 d2)
          have h1 := HR1.out.st4 LBZ1.out (.int .i64 s2) (.slice a2 n2 c2) (.int .i64 t2) (.slice b2 m2 d2)
          have h2 := HR2.out.st4 LBZ2.out (.int .i64 s2) (.slice a2 n2 c2) (.int .i64 t2) (.slice b2 m2 d2)
          rw [hu] at hb hBA hBZ h1 h2
          unfold st4 at hu
          rw [hu]
          replace KBA := Lib.hid hBA
          replace KBZ := Lib.hid hBZ
          replace HR1 := Lib.hid h1
          replace HR2 := Lib.hid h2
          clear hBA hBZ h1 h2 hu
          replace T := Lib.hid (T.out.trans hb)
          refine ⟨hb, ?_⟩
          clear hb
          refine WT_done (by kernel_rfl) ?_
          go_wp2_with fail
          go_meet
          case rel => exact ⟨BA, BZ, rfl, rfl, Lib.hid ⟨_, _, _, _, _, _, _, _, KBA.out, HR1.out⟩, Lib.hid ⟨_, _, _, _, _, _, _, _, KBZ.out, HR2.out⟩, T⟩
        · unfold stepT
          go_wp2_with fail
          have LBZ1 : Hid (Loc (fun c => c ≠ u2.heap.size) a1 _ ∧ Loc (fun c => c ≠ u2.heap.size) b1 _) := Lib.hid (HR1.out.locNe)
          have neBABZ : Hid (BA ≠ u2.heap.size) := Lib.hid (by have := KBA.out.1; omega)
          obtain ⟨u3, hwA⟩ : ∃ wA, u2.alloc (.cells #[.int .i64 0, .slice none 0 0, .int .i64 0, .slice none 0 0] 112) = wA := ⟨_, rfl⟩
          rw [hwA]
          have hb : Below u2.heap.size u2 u3 := by subst hwA; exact bAlloc (bSelf _) _
          replace HR1 := Lib.hid (HR1.out.to hb)
          replace KBA := Lib.hid (KBA.out.to hb)
          have KBZ : Hid (Blk u3 u2.heap.size #[.int .i64 0, .slice none 0 0, .int .i64 0, .slice none 0 0]) := by subst hwA; exact Blk.new _ _ _
          clear hwA
          have BZN : Hid (W.heap.size ≤ u2.heap.size) := Lib.hid T.out.size
          obtain ⟨BZ, hBZ⟩ : ∃ N, u2.heap.size = N := ⟨_, rfl⟩
          have hbd := Lib.hid (hb.mono T.out.size)
          replace T := Lib.hid (bThen T.out hb)
          clear hb
          rw [hBZ] at KBZ BZN LBZ1 neBABZ ⊢
          clear hBZ
          refine ⟨hbd.out, ?_⟩
          clear hbd
          refine WT_one 7 rfl (by kernel_rfl) ?_
          unfold stepT
          go_wp2_with fail
          refine (HS2.out _).mono ?_
          rintro e u4 ⟨a2, b2, v2, rfl, hrr, hb, hloc⟩
          have HL := Lib.hid (fun (P : Nat → Prop) (h : ∀ b, u3.heap.size ≤ b → P b) => hloc P h (fun i hi => by cases hi))
          have LBA2 := Lib.hid (HL.out (fun c => c ≠ BA) (fun b hb => by have := KBA.out.1; omega))
          have LBZ2 := Lib.hid (HL.out (fun c => c ≠ BZ) (fun b hb => by have := KBZ.out.1; omega))
          replace HR1 := Lib.hid (HR1.out.to hb)
          replace KBA := Lib.hid (KBA.out.to hb)
          replace KBZ := Lib.hid (KBZ.out.to hb)
          have HR2 := Lib.hid hrr
          have hbd := Lib.hid (hb.mono T.out.size)
          replace T := Lib.hid (bThen T.out hb)
          obtain ⟨s2, n2, c2, t2, m2, d2, rfl, -, -⟩ := hrr.ex
          clear hb hloc HL hrr
          go_wp2_with fail
          refine ⟨hbd.out, ?_⟩
          clear hbd
          refine WT_one 10 rfl (by kernel_rfl) ?_
          unfold stepT
          obtain ⟨-, kx, fx⟩ := KBA.out
          go_wp2_with fail
          clear kx fx
          obtain ⟨u5, hu⟩ : ∃ u, st4 u4 BA (.int .i64 s1) (.slice a1 n1 c1) (.int .i64 t1) (.slice b1 m1 d1) = u := ⟨_, rfl⟩
          have hb := below_st4 u4 BAN.out (.int .i64 s1) (.slice a1 n1 c1) (.int .i64 t1) (.slice b1 m1 d1)
          have hBA := KBA.out.st4 (.int .i64 s1) (.slice a1 n1 c1) (.int .i64 t1) (.slice b1 m1 d1)
          have hBZ := KBZ.out.st4o (b' := BA) (by first | exact neBABZ.out | exact fun e => neBZBA.out e.symm) (.int .i64 s1) (.slice a1 n1 c1) (.int .i64 t1) (.slice b1 m1 d1)
          have h1 := HR1.out.st4 LBA1.out (.int .i64 s1) (.slice a1 n1 c1) (.int .i64 t1) (.slice b1 m1 d1)
          have h2 := HR2.out.st4 LBA2.out (.int .i64 s1) (.slice a1 n1 c1) (.int .i64 t1) (.slice b1 m1 d1)
          rw [hu] at hb hBA hBZ h1 h2
          unfold st4 at hu
          rw [hu]
          replace KBA := Lib.hid hBA
          replace KBZ := Lib.hid hBZ
          replace HR1 := Lib.hid h1
          replace HR2 := Lib.hid h2
          clear hBA hBZ h1 h2 hu
          replace T := Lib.hid (T.out.trans hb)
          refine ⟨hb, ?_⟩
          clear hb
          refine WT_one 11 rfl (by kernel_rfl) ?_
          unfold stepT
          obtain ⟨-, kx, fx⟩ := KBZ.out
          go_wp2_with fail
          clear kx fx
          obtain ⟨u6, hu⟩ : ∃ u, st4 u5 BZ (.int .i64 s2) (.slice a2 n2 c2) (.int .i64 t2) (.slice b2 m2 d2) = u := ⟨_, rfl⟩
          have hb := below_st4 u5 BZN.out (.int .i64 s2) (.slice a2 n2 c2) (.int .i64 t2) (.slice b2 m2 d2)
          have hBA := KBA.out.st4o (b' := BZ) (by first | exact neBZBA.out | exact fun e => neBABZ.out e.symm) (.int .i64 s2) (.slice a2 n2 c2) (.int .i64 t2) (.slice b2 m2 d2)
          have hBZ := KBZ.out.st4 (.int .i64 s2) (.slice a2 n2 c2) (.int .i64 t2) (.slice b2 m2 d2)
          have h1 := HR1.out.st4 LBZ1.out (.int .i64 s2) (.slice a2 n2 c2) (.int .i64 t2) (.slice b2 m2 d2)
          have h2 := HR2.out.st4 LBZ2.out (.int .i64 s2) (.slice a2 n2 c2) (.int .i64 t2) (.slice b2 m2 d2)
          rw [hu] at hb hBA hBZ h1 h2
          unfold st4 at hu
          rw [hu]
          replace KBA := Lib.hid hBA
          replace KBZ := Lib.hid hBZ
          replace HR1 := Lib.hid h1
          replace HR2 := Lib.hid h2
          clear hBA hBZ h1 h2 hu
          replace T := Lib.hid (T.out.trans hb)
          refine ⟨hb, ?_⟩
          clear hb
          refine WT_done (by kernel_rfl) ?_
          go_wp2_with fail
          go_meet
          case rel => exact ⟨BA, BZ, rfl, rfl, Lib.hid ⟨_, _, _, _, _, _, _, _, KBA.out, HR1.out⟩, Lib.hid ⟨_, _, _, _, _, _, _, _, KBZ.out, HR2.out⟩, T⟩
      · unfold stepT
        go_wp2_with fail
        have LBZ1 : Hid (Loc (fun c => c ≠ u1.heap.size) a1 _ ∧ Loc (fun c => c ≠ u1.heap.size) b1 _) := Lib.hid (HR1.out.locNe)
        obtain ⟨u2, hwA⟩ : ∃ wA, u1.alloc (.cells #[.int .i64 0, .slice none 0 0, .int .i64 0, .slice none 0 0] 112) = wA := ⟨_, rfl⟩
        rw [hwA]
        have hb : Below u1.heap.size u1 u2 := by subst hwA; exact bAlloc (bSelf _) _
        replace HR1 := Lib.hid (HR1.out.to hb)
        have KBZ : Hid (Blk u2 u1.heap.size #[.int .i64 0, .slice none 0 0, .int .i64 0, .slice none 0 0]) := by subst hwA; exact Blk.new _ _ _
        clear hwA
        have BZN : Hid (W.heap.size ≤ u1.heap.size) := Lib.hid T.out.size
        obtain ⟨BZ, hBZ⟩ : ∃ N, u1.heap.size = N := ⟨_, rfl⟩
        have hbd := Lib.hid (hb.mono T.out.size)
        replace T := Lib.hid (bThen T.out hb)
        clear hb
        rw [hBZ] at KBZ BZN LBZ1 ⊢
        clear hBZ
        refine ⟨hbd.out, ?_⟩
        clear hbd
        refine WT_two 7 8 rfl rfl (by kernel_rfl) ?_ ?_
        · unfold stepT
          go_wp2_with fail
          refine (HS2.out _).mono ?_
          rintro e u3 ⟨a2, b2, v2, rfl, hrr, hb, hloc⟩
          have HL := Lib.hid (fun (P : Nat → Prop) (h : ∀ b, u2.heap.size ≤ b → P b) => hloc P h (fun i hi => by cases hi))
          have LBZ2 := Lib.hid (HL.out (fun c => c ≠ BZ) (fun b hb => by have := KBZ.out.1; omega))
          replace HR1 := Lib.hid (HR1.out.to hb)
          replace KBZ := Lib.hid (KBZ.out.to hb)
          have HR2 := Lib.hid hrr
          have hbd := Lib.hid (hb.mono T.out.size)
          replace T := Lib.hid (bThen T.out hb)
          obtain ⟨s2, n2, c2, t2, m2, d2, rfl, -, -⟩ := hrr.ex
          clear hb hloc HL hrr
          go_wp2_with fail
          refine ⟨hbd.out, ?_⟩
          clear hbd
          refine WT_one 8 rfl (by kernel_rfl) ?_
          unfold stepT
          go_wp2_with fail
          have LBA1 : Hid (Loc (fun c => c ≠ u3.heap.size) a1 _ ∧ Loc (fun c => c ≠ u3.heap.size) b1 _) := Lib.hid (HR1.out.locNe)
          have LBA2 : Hid (Loc (fun c => c ≠ u3.heap.size) a2 _ ∧ Loc (fun c => c ≠ u3.heap.size) b2 _) := Lib.hid (HR2.out.locNe)
          have neBZBA : Hid (BZ ≠ u3.heap.size) := Lib.hid (by have := KBZ.out.1; omega)
          obtain ⟨u4, hwA⟩ : ∃ wA, u3.alloc (.cells #[.int .i64 0, .slice none 0 0, .int .i64 0, .slice none 0 0] 112) = wA := ⟨_, rfl⟩
          rw [hwA]
          have hb : Below u3.heap.size u3 u4 := by subst hwA; exact bAlloc (bSelf _) _
          replace HR1 := Lib.hid (HR1.out.to hb)
          replace HR2 := Lib.hid (HR2.out.to hb)
          replace KBZ := Lib.hid (KBZ.out.to hb)
          have KBA : Hid (Blk u4 u3.heap.size #[.int .i64 0, .slice none 0 0, .int .i64 0, .slice none 0 0]) := by subst hwA; exact Blk.new _ _ _
          clear hwA
          have BAN : Hid (W.heap.size ≤ u3.heap.size) := Lib.hid T.out.size
          obtain ⟨BA, hBA⟩ : ∃ N, u3.heap.size = N := ⟨_, rfl⟩
          have hbd := Lib.hid (hb.mono T.out.size)
          replace T := Lib.hid (bThen T.out hb)
          clear hb
          rw [hBA] at KBA BAN LBA1 LBA2 neBZBA ⊢
          clear hBA
          refine ⟨hbd.out, ?_⟩
          clear hbd
          refine WT_one 10 rfl (by kernel_rfl) ?_
          unfold stepT
          obtain ⟨-, kx, fx⟩ := KBA.out
          go_wp2_with fail
          clear kx fx
          obtain ⟨u5, hu⟩ : ∃ u, st4 u4 BA (.int .i64 s1) (.slice a1 n1 c1) (.int .i64 t1) (.slice b1 m1 d1) = u := ⟨_, rfl⟩
          have hb := below_st4 u4 BAN.out (.int .i64 s1) (.slice a1 n1 c1) (.int .i64 t1) (.slice b1 m1 d1)
          have hBZ := KBZ.out.st4o (b' := BA) (by first | exact neBABZ.out | exact fun e => neBZBA.out e.symm) (.int .i64 s1) (.slice a1 n1 c1) (.int .i64 t1) (.slice b1 m1 d1)
          have hBA := KBA.out.st4 (.int .i64 s1) (.slice a1 n1 c1) (.int .i64 t1) (.slice b1 m1 d1)
          have h1 := HR1.out.st4 LBA1.out (.int .i64 s1) (.slice a1 n1 c1) (.int .i64 t1) (.slice b1 m1 d1)
          have h2 := HR2.out.st4 LBA2.out (.int .i64 s1) (.slice a1 n1 c1) (.int .i64 t1) (.slice b1 m1 d1)
          rw [hu] at hb hBZ hBA h1 h2
          unfold st4 at hu
          rw [hu]
          replace KBZ := Lib.hid hBZ
          replace KBA := Lib.hid hBA
          replace HR1 := Lib.hid h1
          replace HR2 := Lib.hid h2
          clear hBZ hBA h1 h2 hu
          replace T := Lib.hid (T.out.trans hb)
          refine ⟨hb, ?_⟩
          clear hb
          refine WT_one 11 rfl (by kernel_rfl) ?_
          unfold stepT
          obtain ⟨-, kx, fx⟩ := KBZ.out
          go_wp2_with fail
          clear kx fx
          obtain ⟨u6, hu⟩ : ∃ u, st4 u5 BZ (.int .i64 s2) (.slice a2 n2 c2) (.int .i64 t2) (.slice b2 m2 d2) = u := ⟨_, rfl⟩
          have hb := below_st4 u5 BZN.out (.int .i64 s2) (.slice a2 n2 c2) (.int .i64 t2) (.slice b2 m2 d2)
          have hBZ := KBZ.out.st4 (.int .i64 s2) (.slice a2 n2 c2) (.int .i64 t2) (.slice b2 m2 d2)
          have hBA := KBA.out.st4o (b' := BZ) (by first | exact neBZBA.out | exact fun e => neBABZ.out e.symm) (.int .i64 s2) (.slice a2 n2 c2) (.int .i64 t2) (.slice b2 m2 d2)
          have h1 := HR1.out.st4 LBZ1.out (.int .i64 s2) (.slice a2 n2 c2) (.int .i64 t2) (.slice b2 m2 d2)
          have h2 := HR2.out.st4 LBZ2.out (.int .i64 s2) (.slice a2 n2 c2) (.int .i64 t2) (.slice b2 m2 d2)
          rw [hu] at hb hBZ hBA h1 h2
          unfold st4 at hu
          rw [hu]
          replace KBZ := Lib.hid hBZ
          replace KBA := Lib.hid hBA
          replace HR1 := Lib.hid h1
          replace HR2 := Lib.hid h2
          clear hBZ hBA h1 h2 hu
          replace T := Lib.hid (T.out.trans hb)
          refine ⟨hb, ?_⟩
          clear hb
          refine WT_done (by kernel_rfl) ?_
          go_wp2_with fail
          go_meet
          case rel => exact ⟨BA, BZ, rfl, rfl, Lib.hid ⟨_, _, _, _, _, _, _, _, KBA.out, HR1.out⟩, Lib.hid ⟨_, _, _, _, _, _, _, _, KBZ.out, HR2.out⟩, T⟩
        · unfold stepT
          go_wp2_with fail
          have LBA1 : Hid (Loc (fun c => c ≠ u2.heap.size) a1 _ ∧ Loc (fun c => c ≠ u2.heap.size) b1 _) := Lib.hid (HR1.out.locNe)
          have neBZBA : Hid (BZ ≠ u2.heap.size) := Lib.hid (by have := KBZ.out.1; omega)
          obtain ⟨u3, hwA⟩ : ∃ wA, u2.alloc (.cells #[.int .i64 0, .slice none 0 0, .int .i64 0, .slice none 0 0] 112) = wA := ⟨_, rfl⟩
          rw [hwA]
          have hb : Below u2.heap.size u2 u3 := by subst hwA; exact bAlloc (bSelf _) _
          replace HR1 := Lib.hid (HR1.out.to hb)
          replace KBZ := Lib.hid (KBZ.out.to hb)
          have KBA : Hid (Blk u3 u2.heap.size #[.int .i64 0, .slice none 0 0, .int .i64 0, .slice none 0 0]) := by subst hwA; exact Blk.new _ _ _
          clear hwA
          have BAN : Hid (W.heap.size ≤ u2.heap.size) := Lib.hid T.out.size
          obtain ⟨BA, hBA⟩ : ∃ N, u2.heap.size = N := ⟨_, rfl⟩
          have hbd := Lib.hid (hb.mono T.out.size)
          replace T := Lib.hid (bThen T.out hb)
          clear hb
          rw [hBA] at KBA BAN LBA1 neBZBA ⊢
          clear hBA
          refine ⟨hbd.out, ?_⟩
          clear hbd
          refine WT_one 7 rfl (by kernel_rfl) ?_
          unfold stepT
          go_wp2_with fail
          refine (HS2.out _).mono ?_
          rintro e u4 ⟨a2, b2, v2, rfl, hrr, hb, hloc⟩
          have HL := Lib.hid (fun (P : Nat → Prop) (h : ∀ b, u3.heap.size ≤ b → P b) => hloc P h (fun i hi => by cases hi))
          have LBZ2 := Lib.hid (HL.out (fun c => c ≠ BZ) (fun b hb => by have := KBZ.out.1; omega))
          have LBA2 := Lib.hid (HL.out (fun c => c ≠ BA) (fun b hb => by have := KBA.out.1; omega))
          replace HR1 := Lib.hid (HR1.out.to hb)
          replace KBZ := Lib.hid (KBZ.out.to hb)
          replace KBA := Lib.hid (KBA.out.to hb)
          have HR2 := Lib.hid hrr
          have hbd := Lib.hid (hb.mono T.out.size)
          replace T := Lib.hid (bThen T.out hb)
          obtain ⟨s2, n2, c2, t2, m2, d2, rfl, -, -⟩ := hrr.ex
          clear hb hloc HL hrr
          go_wp2_with fail
          refine ⟨hbd.out, ?_⟩
          clear hbd
          refine WT_one 10 rfl (by kernel_rfl) ?_
          unfold stepT
          obtain ⟨-, kx, fx⟩ := KBA.out
          go_wp2_with fail
          clear kx fx
          obtain ⟨u5, hu⟩ : ∃ u, st4 u4 BA (.int .i64 s1) (.slice a1 n1 c1) (.int .i64 t1) (.slice b1 m1 d1) = u := ⟨_, rfl⟩
          have hb := below_st4 u4 BAN.out (.int .i64 s1) (.slice a1 n1 c1) (.int .i64 t1) (.slice b1 m1 d1)
          have hBZ := KBZ.out.st4o (b' := BA) (by first | exact neBABZ.out | exact fun e => neBZBA.out e.symm) (.int .i64 s1) (.slice a1 n1 c1) (.int .i64 t1) (.slice b1 m1 d1)
          have hBA := KBA.out.st4 (.int .i64 s1) (.slice a1 n1 c1) (.int .i64 t1) (.slice b1 m1 d1)
          have h1 := HR1.out.st4 LBA1.out (.int .i64 s1) (.slice a1 n1 c1) (.int .i64 t1) (.slice b1 m1 d1)
          have h2 := HR2.out.st4 LBA2.out (.int .i64 s1) (.slice a1 n1 c1) (.int .i64 t1) (.slice b1 m1 d1)
          rw [hu] at hb hBZ hBA h1 h2
          unfold st4 at hu
          rw [hu]
          replace KBZ := Lib.hid hBZ
          replace KBA := Lib.hid hBA
          replace HR1 := Lib.hid h1
          replace HR2 := Lib.hid h2
          clear hBZ hBA h1 h2 hu
          replace T := Lib.hid (T.out.trans hb)
          refine ⟨hb, ?_⟩
          clear hb
          refine WT_one 11 rfl (by kernel_rfl) ?_
          unfold stepT
          obtain ⟨-, kx, fx⟩ := KBZ.out
          go_wp2_with fail
          clear kx fx
          obtain ⟨u6, hu⟩ : ∃ u, st4 u5 BZ (.int .i64 s2) (.slice a2 n2 c2) (.int .i64 t2) (.slice b2 m2 d2) = u := ⟨_, rfl⟩
          have hb := below_st4 u5 BZN.out (.int .i64 s2) (.slice a2 n2 c2) (.int .i64 t2) (.slice b2 m2 d2)
          have hBZ := KBZ.out.st4 (.int .i64 s2) (.slice a2 n2 c2) (.int .i64 t2) (.slice b2 m2 d2)
          have hBA := KBA.out.st4o (b' := BZ) (by first | exact neBZBA.out | exact fun e => neBABZ.out e.symm) (.int .i64 s2) (.slice a2 n2 c2) (.int .i64 t2) (.slice b2 m2 d2)
          have h1 := HR1.out.st4 LBZ1.out (.int .i64 s2) (.slice a2 n2 c2) (.int .i64 t2) (.slice b2 m2 d2)
          have h2 := HR2.out.st4 LBZ2.out (.int .i64 s2) (.slice a2 n2 c2) (.int .i64 t2) (.slice b2 m2 d2)
          rw [hu] at hb hBZ hBA h1 h2
          unfold st4 at hu
          rw [hu]
          replace KBZ := Lib.hid hBZ
          replace KBA := Lib.hid hBA
          replace HR1 := Lib.hid h1
          replace HR2 := Lib.hid h2
          clear hBZ hBA h1 h2 hu
          replace T := Lib.hid (T.out.trans hb)
          refine ⟨hb, ?_⟩
          clear hb
          refine WT_done (by kernel_rfl) ?_
          go_wp2_with fail
          go_meet
          case rel => exact ⟨BA, BZ, rfl, rfl, Lib.hid ⟨_, _, _, _, _, _, _, _, KBA.out, HR1.out⟩, Lib.hid ⟨_, _, _, _, _, _, _, _, KBZ.out, HR2.out⟩, T⟩
    · unfold stepT
      go_wp2_with fail
      obtain ⟨u1, hwA⟩ : ∃ wA, wd.alloc (.cells #[.int .i64 0, .slice none 0 0, .int .i64 0, .slice none 0 0] 112) = wA := ⟨_, rfl⟩
      rw [hwA]
      have hb : Below wd.heap.size wd u1 := by subst hwA; exact bAlloc (bSelf _) _
      have KBA : Hid (Blk u1 wd.heap.size #[.int .i64 0, .slice none 0 0, .int .i64 0, .slice none 0 0]) := by subst hwA; exact Blk.new _ _ _
      clear hwA
      have BAN : Hid (W.heap.size ≤ wd.heap.size) := Lib.hid T.out.size
      obtain ⟨BA, hBA⟩ : ∃ N, wd.heap.size = N := ⟨_, rfl⟩
      have hbd := Lib.hid (hb.mono T.out.size)
      replace T := Lib.hid (bThen T.out hb)
      clear hb
      rw [hBA] at KBA BAN  ⊢
      clear hBA
      refine ⟨hbd.out, ?_⟩
      clear hbd
      refine WT_two 3 9 rfl rfl (by kernel_rfl) ?_ ?_
      · unfold stepT
        go_wp2_with fail
        refine (HS1.out _).mono ?_
        rintro e u2 ⟨a1, b1, v1, rfl, hrr, hb, hloc⟩
        have HL := Lib.hid (fun (P : Nat → Prop) (h : ∀ b, u1.heap.size ≤ b → P b) => hloc P h (fun i hi => by cases hi))
        have LBA1 := Lib.hid (HL.out (fun c => c ≠ BA) (fun b hb => by have := KBA.out.1; omega))
        replace KBA := Lib.hid (KBA.out.to hb)
        have HR1 := Lib.hid hrr
        have hbd := Lib.hid (hb.mono T.out.size)
        replace T := Lib.hid (bThen T.out hb)
        obtain ⟨s1, n1, c1, t1, m1, d1, rfl, -, -⟩ := hrr.ex
        clear hb hloc HL hrr
        go_wp2_with fail
        refine ⟨hbd.out, ?_⟩
        clear hbd
        refine WT_two 7 9 rfl rfl (by kernel_rfl) ?_ ?_
        · unfold stepT
          go_wp2_with fail
          refine (HS2.out _).mono ?_
          rintro e u3 ⟨a2, b2, v2, rfl, hrr, hb, hloc⟩
          have HL := Lib.hid (fun (P : Nat → Prop) (h : ∀ b, u2.heap.size ≤ b → P b) => hloc P h (fun i hi => by cases hi))
          have LBA2 := Lib.hid (HL.out (fun c => c ≠ BA) (fun b hb => by have := KBA.out.1; omega))
          replace HR1 := Lib.hid (HR1.out.to hb)
          replace KBA := Lib.hid (KBA.out.to hb)
          have HR2 := Lib.hid hrr
          have hbd := Lib.hid (hb.mono T.out.size)
          replace T := Lib.hid (bThen T.out hb)
          obtain ⟨s2, n2, c2, t2, m2, d2, rfl, -, -⟩ := hrr.ex
          clear hb hloc HL hrr
          go_wp2_with fail
          refine ⟨hbd.out, ?_⟩
          clear hbd
          refine WT_one 9 rfl (by kernel_rfl) ?_
          unfold stepT
          go_wp2_with fail
          have LBZ1 : Hid (Loc (fun c => c ≠ u3.heap.size) a1 _ ∧ Loc (fun c => c ≠ u3.heap.size) b1 _) := Lib.hid (HR1.out.locNe)
          have LBZ2 : Hid (Loc (fun c => c ≠ u3.heap.size) a2 _ ∧ Loc (fun c => c ≠ u3.heap.size) b2 _) := Lib.hid (HR2.out.locNe)
          have neBABZ : Hid (BA ≠ u3.heap.size) := Lib.hid (by have := KBA.out.1; omega)
          obtain ⟨u4, hwA⟩ : ∃ wA, u3.alloc (.cells #[.int .i64 0, .slice none 0 0, .int .i64 0, .slice none 0 0] 112) = wA := ⟨_, rfl⟩
          rw [hwA]
          have hb : Below u3.heap.size u3 u4 := by subst hwA; exact bAlloc (bSelf _) _
          replace HR1 := Lib.hid (HR1.out.to hb)
          replace HR2 := Lib.hid (HR2.out.to hb)
          replace KBA := Lib.hid (KBA.out.to hb)
          have KBZ : Hid (Blk u4 u3.heap.size #[.int .i64 0, .slice none 0 0, .int .i64 0, .slice none 0 0]) := by subst hwA; exact Blk.new _ _ _
          clear hwA
          have BZN : Hid (W.heap.size ≤ u3.heap.size) := Lib.hid T.out.size
          obtain ⟨BZ, hBZ⟩ : ∃ N, u3.heap.size = N := ⟨_, rfl⟩
          have hbd := Lib.hid (hb.mono T.out.size)
          replace T := Lib.hid (bThen T.out hb)
          clear hb
          rw [hBZ] at KBZ BZN LBZ1 LBZ2 neBABZ ⊢
          clear hBZ
          refine ⟨hbd.out, ?_⟩
          clear hbd
          refine WT_one 10 rfl (by kernel_rfl) ?_
          unfold stepT
          obtain ⟨-, kx, fx⟩ := KBA.out
          go_wp2_with fail
          clear kx fx
          obtain ⟨u5, hu⟩ : ∃ u, st4 u4 BA (.int .i64 s1) (.slice a1 n1 c1) (.int .i64 t1) (.slice b1 m1 d1) = u := ⟨_, rfl⟩
          have hb := below_st4 u4 BAN.out (.int .i64 s1) (.slice a1 n1 c1) (.int .i64 t1) (.slice b1 m1 d1)
          have hBA := KBA.out.st4 (.int .i64 s1) (.slice a1 n1 c1) (.int .i64 t1) (.slice b1 m1 d1)
          have hBZ := KBZ.out.st4o (b' := BA) (by first | exact neBABZ.out | exact fun e => neBZBA.out e.symm) (.int .i64 s1) (.slice a1 n1 c1) (.int .i64 t1) (.slice b1 m1 d1)
          have h1 := HR1.out.st4 LBA1.out (.int .i64 s1) (.slice a1 n1 c1) (.int .i64 t1) (.slice b1 m1 d1)
          have h2 := HR2.out.st4 LBA2.out (.int .i64 s1) (.slice a1 n1 c1) (.int .i64 t1) (.slice b1 m1 d1)
          rw [hu] at hb hBA hBZ h1 h2
          unfold st4 at hu
          rw [hu]
          replace KBA := Lib.hid hBA
          replace KBZ := Lib.hid hBZ
          replace HR1 := Lib.hid h1
          replace HR2 := Lib.hid h2
          clear hBA hBZ h1 h2 hu
          replace T := Lib.hid (T.out.trans hb)
          refine ⟨hb, ?_⟩
          clear hb
          refine WT_one 11 rfl (by kernel_rfl) ?_
          unfold stepT
          obtain ⟨-, kx, fx⟩ := KBZ.out
          go_wp2_with fail
          clear kx fx
          obtain ⟨u6, hu⟩ : ∃ u, st4 u5 BZ (.int .i64 s2) (.slice a2 n2 c2) (.int .i64 t2) (.slice b2 m2 d2) = u := ⟨_, rfl⟩
          have hb := below_st4 u5 BZN.out (.int .i64 s2) (.slice a2 n2 c2) (.int .i64 t2) (.slice b2 m2 d2)
          have hBA := KBA.out.st4o (b' := BZ) (by first | exact neBZBA.out | exact fun e => neBABZ.out e.symm) (.int .i64 s2) (.slice a2 n2 c2) (.int .i64 t2) (.slice b2 m2 d2)
          have hBZ := KBZ.out.st4 (.int .i64 s2) (.slice a2 n2 c2) (.int .i64 t2) (.slice b2 m2 d2)
          have h1 := HR1.out.st4 LBZ1.out (.int .i64 s2) (.slice a2 n2 c2) (.int .i64 t2) (.slice b2 m2 d2)
          have h2 := HR2.out.st4 LBZ2.out (.int .i64 s2) (.slice a2 n2 c2) (.int .i64 t2) (.slice b2 m2 d2)
          rw [hu] at hb hBA hBZ h1 h2
          unfold st4 at hu
          rw [hu]
          replace KBA := Lib.hid hBA
          replace KBZ := Lib.hid hBZ
          replace HR1 := Lib.hid h1
          replace HR2 := Lib.hid h2
          clear hBA hBZ h1 h2 hu
          replace T := Lib.hid (T.out.trans hb)
          refine ⟨hb, ?_⟩
          clear hb
          refine WT_done (by kernel_rfl) ?_
          go_wp2_with fail
          go_meet
          case rel => exact ⟨BA, BZ, rfl, rfl, Lib.hid ⟨_, _, _, _, _, _, _, _, KBA.out, HR1.out⟩, Lib.hid ⟨_, _, _, _, _, _, _, _, KBZ.out, HR2.out⟩, T⟩
        · unfold stepT
          go_wp2_with fail
          have LBZ1 : Hid (Loc (fun c => c ≠ u2.heap.size) a1 _ ∧ Loc (fun c => c ≠ u2.heap.size) b1 _) := Lib.hid (HR1.out.locNe)
          have neBABZ : Hid (BA ≠ u2.heap.size) := Lib.hid (by have := KBA.out.1; omega)
          obtain ⟨u3, hwA⟩ : ∃ wA, u2.alloc (.cells #[.int .i64 0, .slice none 0 0, .int .i64 0, .slice none 0 0] 112) = wA := ⟨_, rfl⟩
          rw [hwA]
          have hb : Below u2.heap.size u2 u3 := by subst hwA; exact bAlloc (bSelf _) _
          replace HR1 := Lib.hid (HR1.out.to hb)
          replace KBA := Lib.hid (KBA.out.to hb)
          have KBZ : Hid (Blk u3 u2.heap.size #[.int .i64 0, .slice none 0 0, .int .i64 0, .slice none 0 0]) := by subst hwA; exact Blk.new _ _ _
          clear hwA
          have BZN : Hid (W.heap.size ≤ u2.heap.size) := Lib.hid T.out.size
          obtain ⟨BZ, hBZ⟩ : ∃ N, u2.heap.size = N := ⟨_, rfl⟩
          have hbd := Lib.hid (hb.mono T.out.size)
          replace T := Lib.hid (bThen T.out hb)
          clear hb
          rw [hBZ] at KBZ BZN LBZ1 neBABZ ⊢
          clear hBZ
          refine ⟨hbd.out, ?_⟩
          clear hbd
          refine WT_one 7 rfl (by kernel_rfl) ?_
          unfold stepT
          go_wp2_with fail
          refine (HS2.out _).mono ?_
          rintro e u4 ⟨a2, b2, v2, rfl, hrr, hb, hloc⟩
          have HL := Lib.hid (fun (P : Nat → Prop) (h : ∀ b, u3.heap.size ≤ b → P b) => hloc P h (fun i hi => by cases hi))
          have LBA2 := Lib.hid (HL.out (fun c => c ≠ BA) (fun b hb => by have := KBA.out.1; omega))
          have LBZ2 := Lib.hid (HL.out (fun c => c ≠ BZ) (fun b hb => by have := KBZ.out.1; omega))
          replace HR1 := Lib.hid (HR1.out.to hb)
          replace KBA := Lib.hid (KBA.out.to hb)
          replace KBZ := Lib.hid (KBZ.out.to hb)
          have HR2 := Lib.hid hrr
          have hbd := Lib.hid (hb.mono T.out.size)
          replace T := Lib.hid (bThen T.out hb)
          obtain ⟨s2, n2, c2, t2, m2, d2, rfl, -, -⟩ := hrr.ex
          clear hb hloc HL hrr
          go_wp2_with fail
          refine ⟨hbd.out, ?_⟩
          clear hbd
          refine WT_one 10 rfl (by kernel_rfl) ?_
          unfold stepT
          obtain ⟨-, kx, fx⟩ := KBA.out
          go_wp2_with fail
          clear kx fx
          obtain ⟨u5, hu⟩ : ∃ u, st4 u4 BA (.int .i64 s1) (.slice a1 n1 c1) (.int .i64 t1) (.slice b1 m1 d1) = u := ⟨_, rfl⟩
          have hb := below_st4 u4 BAN.out (.int .i64 s1) (.slice a1 n1 c1) (.int .i64 t1) (.slice b1 m1 d1)
          have hBA := KBA.out.st4 (.int .i64 s1) (.slice a1 n1 c1) (.int .i64 t1) (.slice b1 m1 d1)
          have hBZ := KBZ.out.st4o (b' := BA) (by first | exact neBABZ.out | exact fun e => neBZBA.out e.symm) (.int .i64 s1) (.slice a1 n1 c1) (.int .i64 t1) (.slice b1 m1 d1)
          have h1 := HR1.out.st4 LBA1.out (.int .i64 s1) (.slice a1 n1 c1) (.int .i64 t1) (.slice b1 m1 d1)
          have h2 := HR2.out.st4 LBA2.out (.int .i64 s1) (.slice a1 n1 c1) (.int .i64 t1) (.slice b1 m1 d1)
          rw [hu] at hb hBA hBZ h1 h2
          unfold st4 at hu
          rw [hu]
          replace KBA := Lib.hid hBA
          replace KBZ := Lib.hid hBZ
          replace HR1 := Lib.hid h1
          replace HR2 := Lib.hid h2
          clear hBA hBZ h1 h2 hu
          replace T := Lib.hid (T.out.trans hb)
          refine ⟨hb, ?_⟩
          clear hb
          refine WT_one 11 rfl (by kernel_rfl) ?_
          unfold stepT
          obtain ⟨-, kx, fx⟩ := KBZ.out
          go_wp2_with fail
          clear kx fx
          obtain ⟨u6, hu⟩ : ∃ u, st4 u5 BZ (.int .i64 s2) (.slice a2 n2 c2) (.int .i64 t2) (.slice b2 m2 d2) = u := ⟨_, rfl⟩
          have hb := below_st4 u5 BZN.out (.int .i64 s2) (.slice a2 n2 c2) (.int .i64 t2) (.slice b2 m2 d2)
          have hBA := KBA.out.st4o (b' := BZ) (by first | exact neBZBA.out | exact fun e => neBABZ.out e.symm) (.int .i64 s2) (.slice a2 n2 c2) (.int .i64 t2) (.slice b2 m2 d2)
          have hBZ := KBZ.out.st4 (.int .i64 s2) (.slice a2 n2 c2) (.int .i64 t2) (.slice b2 m2 d2)
          have h1 := HR1.out.st4 LBZ1.out (.int .i64 s2) (.slice a2 n2 c2) (.int .i64 t2) (.slice b2 m2 d2)
          have h2 := HR2.out.st4 LBZ2.out (.int .i64 s2) (.slice a2 n2 c2) (.int .i64 t2) (.slice b2 m2 d2)
          rw [hu] at hb hBA hBZ h1 h2
          unfold st4 at hu
          rw [hu]
          replace KBA := Lib.hid hBA
          replace KBZ := Lib.hid hBZ
          replace HR1 := Lib.hid h1
          replace HR2 := Lib.hid h2
          clear hBA hBZ h1 h2 hu
          replace T := Lib.hid (T.out.trans hb)
          refine ⟨hb, ?_⟩
          clear hb
          refine WT_done (by kernel_rfl) ?_
          go_wp2_with fail
          go_meet
          case rel => exact ⟨BA, BZ, rfl, rfl, Lib.hid ⟨_, _, _, _, _, _, _, _, KBA.out, HR1.out⟩, Lib.hid ⟨_, _, _, _, _, _, _, _, KBZ.out, HR2.out⟩, T⟩
      · unfold stepT
        go_wp2_with fail
        have neBABZ : Hid (BA ≠ u1.heap.size) := Lib.hid (by have := KBA.out.1; omega)
        obtain ⟨u2, hwA⟩ : ∃ wA, u1.alloc (.cells #[.int .i64 0, .slice none 0 0, .int .i64 0, .slice none 0 0] 112) = wA := ⟨_, rfl⟩
        rw [hwA]
        have hb : Below u1.heap.size u1 u2 := by subst hwA; exact bAlloc (bSelf _) _
        replace KBA := Lib.hid (KBA.out.to hb)
        have KBZ : Hid (Blk u2 u1.heap.size #[.int .i64 0, .slice none 0 0, .int .i64 0, .slice none 0 0]) := by subst hwA; exact Blk.new _ _ _
        clear hwA
        have BZN : Hid (W.heap.size ≤ u1.heap.size) := Lib.hid T.out.size
        obtain ⟨BZ, hBZ⟩ : ∃ N, u1.heap.size = N := ⟨_, rfl⟩
        have hbd := Lib.hid (hb.mono T.out.size)
        replace T := Lib.hid (bThen T.out hb)
        clear hb
        rw [hBZ] at KBZ BZN neBABZ ⊢
        clear hBZ
        refine ⟨hbd.out, ?_⟩
        clear hbd
        refine WT_one 3 rfl (by kernel_rfl) ?_
        unfold stepT
        go_wp2_with fail
        refine (HS1.out _).mono ?_
        rintro e u3 ⟨a1, b1, v1, rfl, hrr, hb, hloc⟩
        have HL := Lib.hid (fun (P : Nat → Prop) (h : ∀ b, u2.heap.size ≤ b → P b) => hloc P h (fun i hi => by cases hi))
        have LBA1 := Lib.hid (HL.out (fun c => c ≠ BA) (fun b hb => by have := KBA.out.1; omega))
        have LBZ1 := Lib.hid (HL.out (fun c => c ≠ BZ) (fun b hb => by have := KBZ.out.1; omega))
        replace KBA := Lib.hid (KBA.out.to hb)
        replace KBZ := Lib.hid (KBZ.out.to hb)
        have HR1 := Lib.hid hrr
        have hbd := Lib.hid (hb.mono T.out.size)
        replace T := Lib.hid (bThen T.out hb)
        obtain ⟨s1, n1, c1, t1, m1, d1, rfl, -, -⟩ := hrr.ex
        clear hb hloc HL hrr
        go_wp2_with fail
        refine ⟨hbd.out, ?_⟩
        clear hbd
        refine WT_one 7 rfl (by kernel_rfl) ?_
        unfold stepT
        go_wp2_with fail
        refine (HS2.out _).mono ?_
        rintro e u4 ⟨a2, b2, v2, rfl, hrr, hb, hloc⟩
        have HL := Lib.hid (fun (P : Nat → Prop) (h : ∀ b, u3.heap.size ≤ b → P b) => hloc P h (fun i hi => by cases hi))
        have LBA2 := Lib.hid (HL.out (fun c => c ≠ BA) (fun b hb => by have := KBA.out.1; omega))
        have LBZ2 := Lib.hid (HL.out (fun c => c ≠ BZ) (fun b hb => by have := KBZ.out.1; omega))
        replace HR1 := Lib.hid (HR1.out.to hb)
        replace KBA := Lib.hid (KBA.out.to hb)
        replace KBZ := Lib.hid (KBZ.out.to hb)
        have HR2 := Lib.hid hrr
        have hbd := Lib.hid (hb.mono T.out.size)
        replace T := Lib.hid (bThen T.out hb)
        obtain ⟨s2, n2, c2, t2, m2, d2, rfl, -, -⟩ := hrr.ex
        clear hb hloc HL hrr
        go_wp2_with fail
        refine ⟨hbd.out, ?_⟩
        clear hbd
        refine WT_one 10 rfl (by kernel_rfl) ?_
        unfold stepT
        obtain ⟨-, kx, fx⟩ := KBA.out
        go_wp2_with fail
        clear kx fx
        obtain ⟨u5, hu⟩ : ∃ u, st4 u4 BA (.int .i64 s1) (.slice a1 n1 c1) (.int .i64 t1) (.slice b1 m1 d1) = u := ⟨_, rfl⟩
        have hb := below_st4 u4 BAN.out (.int .i64 s1) (.slice a1 n1 c1) (.int .i64 t1) (.slice b1 m1 d1)
        have hBA := KBA.out.st4 (.int .i64 s1) (.slice a1 n1 c1) (.int .i64 t1) (.slice b1 m1 d1)
        have hBZ := KBZ.out.st4o (b' := BA) (by first | exact neBABZ.out | exact fun e => neBZBA.out e.symm) (.int .i64 s1) (.slice a1 n1 c1) (.int .i64 t1) (.slice b1 m1 d1)
        have h1 := HR1.out.st4 LBA1.out (.int .i64 s1) (.slice a1 n1 c1) (.int .i64 t1) (.slice b1 m1 d1)
        have h2 := HR2.out.st4 LBA2.out (.int .i64 s1) (.slice a1 n1 c1) (.int .i64 t1) (.slice b1 m1 d1)
        rw [hu] at hb hBA hBZ h1 h2
        unfold st4 at hu
        rw [hu]
        replace KBA := Lib.hid hBA
        replace KBZ := Lib.hid hBZ
        replace HR1 := Lib.hid h1
        replace HR2 := Lib.hid h2
        clear hBA hBZ h1 h2 hu
        replace T := Lib.hid (T.out.trans hb)
        refine ⟨hb, ?_⟩
        clear hb
        refine WT_one 11 rfl (by kernel_rfl) ?_
        unfold stepT
        obtain ⟨-, kx, fx⟩ := KBZ.out
        go_wp2_with fail
        clear kx fx
        obtain ⟨u6, hu⟩ : ∃ u, st4 u5 BZ (.int .i64 s2) (.slice a2 n2 c2) (.int .i64 t2) (.slice b2 m2 d2) = u := ⟨_, rfl⟩
        have hb := below_st4 u5 BZN.out (.int .i64 s2) (.slice a2 n2 c2) (.int .i64 t2) (.slice b2 m2 d2)
        have hBA := KBA.out.st4o (b' := BZ) (by first | exact neBZBA.out | exact fun e => neBABZ.out e.symm) (.int .i64 s2) (.slice a2 n2 c2) (.int .i64 t2) (.slice b2 m2 d2)
        have hBZ := KBZ.out.st4 (.int .i64 s2) (.slice a2 n2 c2) (.int .i64 t2) (.slice b2 m2 d2)
        have h1 := HR1.out.st4 LBZ1.out (.int .i64 s2) (.slice a2 n2 c2) (.int .i64 t2) (.slice b2 m2 d2)
        have h2 := HR2.out.st4 LBZ2.out (.int .i64 s2) (.slice a2 n2 c2) (.int .i64 t2) (.slice b2 m2 d2)
        rw [hu] at hb hBA hBZ h1 h2
        unfold st4 at hu
        rw [hu]
        replace KBA := Lib.hid hBA
        replace KBZ := Lib.hid hBZ
        replace HR1 := Lib.hid h1
        replace HR2 := Lib.hid h2
        clear hBA hBZ h1 h2 hu
        replace T := Lib.hid (T.out.trans hb)
        refine ⟨hb, ?_⟩
        clear hb
        refine WT_done (by kernel_rfl) ?_
        go_wp2_with fail
        go_meet
        case rel => exact ⟨BA, BZ, rfl, rfl, Lib.hid ⟨_, _, _, _, _, _, _, _, KBA.out, HR1.out⟩, Lib.hid ⟨_, _, _, _, _, _, _, _, KBZ.out, HR2.out⟩, T⟩
    · unfold stepT
      go_wp2_with fail
      obtain ⟨u1, hwA⟩ : ∃ wA, wd.alloc (.cells #[.int .i64 0, .slice none 0 0, .int .i64 0, .slice none 0 0] 112) = wA := ⟨_, rfl⟩
      rw [hwA]
      have hb : Below wd.heap.size wd u1 := by subst hwA; exact bAlloc (bSelf _) _
      have KBZ : Hid (Blk u1 wd.heap.size #[.int .i64 0, .slice none 0 0, .int .i64 0, .slice none 0 0]) := by subst hwA; exact Blk.new _ _ _
      clear hwA
      have BZN : Hid (W.heap.size ≤ wd.heap.size) := Lib.hid T.out.size
      obtain ⟨BZ, hBZ⟩ : ∃ N, wd.heap.size = N := ⟨_, rfl⟩
      have hbd := Lib.hid (hb.mono T.out.size)
      replace T := Lib.hid (bThen T.out hb)
      clear hb
      rw [hBZ] at KBZ BZN  ⊢
      clear hBZ
      refine ⟨hbd.out, ?_⟩
      clear hbd
      refine WT_two 3 8 rfl rfl (by kernel_rfl) ?_ ?_
      · unfold stepT
        go_wp2_with fail
        refine (HS1.out _).mono ?_
        rintro e u2 ⟨a1, b1, v1, rfl, hrr, hb, hloc⟩
        have HL := Lib.hid (fun (P : Nat → Prop) (h : ∀ b, u1.heap.size ≤ b → P b) => hloc P h (fun i hi => by cases hi))
        have LBZ1 := Lib.hid (HL.out (fun c => c ≠ BZ) (fun b hb => by have := KBZ.out.1; omega))
        replace KBZ := Lib.hid (KBZ.out.to hb)
        have HR1 := Lib.hid hrr
        have hbd := Lib.hid (hb.mono T.out.size)
        replace T := Lib.hid (bThen T.out hb)
        obtain ⟨s1, n1, c1, t1, m1, d1, rfl, -, -⟩ := hrr.ex
        clear hb hloc HL hrr
        go_wp2_with fail
        refine ⟨hbd.out, ?_⟩
        clear hbd
        refine WT_two 7 8 rfl rfl (by kernel_rfl) ?_ ?_
        · unfold stepT
          go_wp2_with fail
          refine (HS2.out _).mono ?_
          rintro e u3 ⟨a2, b2, v2, rfl, hrr, hb, hloc⟩
          have HL := Lib.hid (fun (P : Nat → Prop) (h : ∀ b, u2.heap.size ≤ b → P b) => hloc P h (fun i hi => by cases hi))
          have LBZ2 := Lib.hid (HL.out (fun c => c ≠ BZ) (fun b hb => by have := KBZ.out.1; omega))
          replace HR1 := Lib.hid (HR1.out.to hb)
          replace KBZ := Lib.hid (KBZ.out.to hb)
          have HR2 := Lib.hid hrr
          have hbd := Lib.hid (hb.mono T.out.size)
          replace T := Lib.hid (bThen T.out hb)
          obtain ⟨s2, n2, c2, t2, m2, d2, rfl, -, -⟩ := hrr.ex
          clear hb hloc HL hrr
          go_wp2_with fail
          refine ⟨hbd.out, ?_⟩
          clear hbd
          refine WT_one 8 rfl (by kernel_rfl) ?_
          unfold stepT
          go_wp2_with fail
          have LBA1 : Hid (Loc (fun c => c ≠ u3.heap.size) a1 _ ∧ Loc (fun c => c ≠ u3.heap.size) b1 _) := Lib.hid (HR1.out.locNe)
          have LBA2 : Hid (Loc (fun c => c ≠ u3.heap.size) a2 _ ∧ Loc (fun c => c ≠ u3.heap.size) b2 _) := Lib.hid (HR2.out.locNe)
          have neBZBA : Hid (BZ ≠ u3.heap.size) := Lib.hid (by have := KBZ.out.1; omega)
          obtain ⟨u4, hwA⟩ : ∃ wA, u3.alloc (.cells #[.int .i64 0, .slice none 0 0, .int .i64 0, .slice none 0 0] 112) = wA := ⟨_, rfl⟩
          rw [hwA]
          have hb : Below u3.heap.size u3 u4 := by subst hwA; exact bAlloc (bSelf _) _
          replace HR1 := Lib.hid (HR1.out.to hb)
          replace HR2 := Lib.hid (HR2.out.to hb)
          replace KBZ := Lib.hid (KBZ.out.to hb)
          have KBA : Hid (Blk u4 u3.heap.size #[.int .i64 0, .slice none 0 0, .int .i64 0, .slice none 0 0]) := by subst hwA; exact Blk.new _ _ _
          clear hwA
          have BAN : Hid (W.heap.size ≤ u3.heap.size) := Lib.hid T.out.size
          obtain ⟨BA, hBA⟩ : ∃ N, u3.heap.size = N := ⟨_, rfl⟩
          have hbd := Lib.hid (hb.mono T.out.size)
          replace T := Lib.hid (bThen T.out hb)
          clear hb
          rw [hBA] at KBA BAN LBA1 LBA2 neBZBA ⊢
          clear hBA
          refine ⟨hbd.out, ?_⟩
          clear hbd
          refine WT_one 10 rfl (by kernel_rfl) ?_
          unfold stepT
          obtain ⟨-, kx, fx⟩ := KBA.out
          go_wp2_with fail
          clear kx fx
          obtain ⟨u5, hu⟩ : ∃ u, st4 u4 BA (.int .i64 s1) (.slice a1 n1 c1) (.int .i64 t1) (.slice b1 m1 d1) = u := ⟨_, rfl⟩
          have hb := below_st4 u4 BAN.out (.int .i64 s1) (.slice a1 n1 c1) (.int .i64 t1) (.slice b1 m1 d1)
          have hBZ := KBZ.out.st4o (b' := BA) (by first | exact neBABZ.out | exact fun e => neBZBA.out e.symm) (.int .i64 s1) (.slice a1 n1 c1) (.int .i64 t1) (.slice b1 m1 d1)
          have hBA := KBA.out.st4 (.int .i64 s1) (.slice a1 n1 c1) (.int .i64 t1) (.slice b1 m1 d1)
          have h1 := HR1.out.st4 LBA1.out (.int .i64 s1) (.slice a1 n1 c1) (.int .i64 t1) (.slice b1 m1 d1)
          have h2 := HR2.out.st4 LBA2.out (.int .i64 s1) (.slice a1 n1 c1) (.int .i64 t1) (.slice b1 m1 d1)
          rw [hu] at hb hBZ hBA h1 h2
          unfold st4 at hu
          rw [hu]
          replace KBZ := Lib.hid hBZ
          replace KBA := Lib.hid hBA
          replace HR1 := Lib.hid h1
          replace HR2 := Lib.hid h2
          clear hBZ hBA h1 h2 hu
          replace T := Lib.hid (T.out.trans hb)
          refine ⟨hb, ?_⟩
          clear hb
          refine WT_one 11 rfl (by kernel_rfl) ?_
          unfold stepT
          obtain ⟨-, kx, fx⟩ := KBZ.out
          go_wp2_with fail
          clear kx fx
          obtain ⟨u6, hu⟩ : ∃ u, st4 u5 BZ (.int .i64 s2) (.slice a2 n2 c2) (.int .i64 t2) (.slice b2 m2 d2) = u := ⟨_, rfl⟩
          have hb := below_st4 u5 BZN.out (.int .i64 s2) (.slice a2 n2 c2) (.int .i64 t2) (.slice b2 m2 d2)
          have hBZ := KBZ.out.st4 (.int .i64 s2) (.slice a2 n2 c2) (.int .i64 t2) (.slice b2 m2 d2)
          have hBA := KBA.out.st4o (b' := BZ) (by first | exact neBZBA.out | exact fun e => neBABZ.out e.symm) (.int .i64 s2) (.slice a2 n2 c2) (.int .i64 t2) (.slice b2 m2 d2)
          have h1 := HR1.out.st4 LBZ1.out (.int .i64 s2) (.slice a2 n2 c2) (.int .i64 t2) (.slice b2 m2 d2)
          have h2 := HR2.out.st4 LBZ2.out (.int .i64 s2) (.slice a2 n2 c2) (.int .i64 t2) (.slice b2 m2 d2)
          rw [hu] at hb hBZ hBA h1 h2
          unfold st4 at hu
          rw [hu]
          replace KBZ := Lib.hid hBZ
          replace KBA := Lib.hid hBA
          replace HR1 := Lib.hid h1
          replace HR2 := Lib.hid h2
          clear hBZ hBA h1 h2 hu
          replace T := Lib.hid (T.out.trans hb)
          refine ⟨hb, ?_⟩
          clear hb
          refine WT_done (by kernel_rfl) ?_
          go_wp2_with fail
          go_meet
          case rel => exact ⟨BA, BZ, rfl, rfl, Lib.hid ⟨_, _, _, _, _, _, _, _, KBA.out, HR1.out⟩, Lib.hid ⟨_, _, _, _, _, _, _, _, KBZ.out, HR2.out⟩, T⟩
        · unfold stepT
          go_wp2_with fail
          have LBA1 : Hid (Loc (fun c => c ≠ u2.heap.size) a1 _ ∧ Loc (fun c => c ≠ u2.heap.size) b1 _) := Lib.hid (HR1.out.locNe)
          have neBZBA : Hid (BZ ≠ u2.heap.size) := Lib.hid (by have := KBZ.out.1; omega)
          obtain ⟨u3, hwA⟩ : ∃ wA, u2.alloc (.cells #[.int .i64 0, .slice none 0 0, .int .i64 0, .slice none 0 0] 112) = wA := ⟨_, rfl⟩
          rw [hwA]
          have hb : Below u2.heap.size u2 u3 := by subst hwA; exact bAlloc (bSelf _) _
          replace HR1 := Lib.hid (HR1.out.to hb)
          replace KBZ := Lib.hid (KBZ.out.to hb)
          have KBA : Hid (Blk u3 u2.heap.size #[.int .i64 0, .slice none 0 0, .int .i64 0, .slice none 0 0]) := by subst hwA; exact Blk.new _ _ _
          clear hwA
          have BAN : Hid (W.heap.size ≤ u2.heap.size) := Lib.hid T.out.size
          obtain ⟨BA, hBA⟩ : ∃ N, u2.heap.size = N := ⟨_, rfl⟩
          have hbd := Lib.hid (hb.mono T.out.size)
          replace T := Lib.hid (bThen T.out hb)
          clear hb
          rw [hBA] at KBA BAN LBA1 neBZBA ⊢
          clear hBA
          refine ⟨hbd.out, ?_⟩
          clear hbd
          refine WT_one 7 rfl (by kernel_rfl) ?_
          unfold stepT
          go_wp2_with fail
          refine (HS2.out _).mono ?_
          rintro e u4 ⟨a2, b2, v2, rfl, hrr, hb, hloc⟩
          have HL := Lib.hid (fun (P : Nat → Prop) (h : ∀ b, u3.heap.size ≤ b → P b) => hloc P h (fun i hi => by cases hi))
          have LBZ2 := Lib.hid (HL.out (fun c => c ≠ BZ) (fun b hb => by have := KBZ.out.1; omega))
          have LBA2 := Lib.hid (HL.out (fun c => c ≠ BA) (fun b hb => by have := KBA.out.1; omega))
          replace HR1 := Lib.hid (HR1.out.to hb)
          replace KBZ := Lib.hid (KBZ.out.to hb)
          replace KBA := Lib.hid (KBA.out.to hb)
          have HR2 := Lib.hid hrr
          have hbd := Lib.hid (hb.mono T.out.size)
          replace T := Lib.hid (bThen T.out hb)
          obtain ⟨s2, n2, c2, t2, m2, d2, rfl, -, -⟩ := hrr.ex
          clear hb hloc HL hrr
          go_wp2_with fail
          refine ⟨hbd.out, ?_⟩
          clear hbd
          refine WT_one 10 rfl (by kernel_rfl) ?_
          unfold stepT
          obtain ⟨-, kx, fx⟩ := KBA.out
          go_wp2_with fail
          clear kx fx
          obtain ⟨u5, hu⟩ : ∃ u, st4 u4 BA (.int .i64 s1) (.slice a1 n1 c1) (.int .i64 t1) (.slice b1 m1 d1) = u := ⟨_, rfl⟩
          have hb := below_st4 u4 BAN.out (.int .i64 s1) (.slice a1 n1 c1) (.int .i64 t1) (.slice b1 m1 d1)
          have hBZ := KBZ.out.st4o (b' := BA) (by first | exact neBABZ.out | exact fun e => neBZBA.out e.symm) (.int .i64 s1) (.slice a1 n1 c1) (.int .i64 t1) (.slice b1 m1 d1)
          have hBA := KBA.out.st4 (.int .i64 s1) (.slice a1 n1 c1) (.int .i64 t1) (.slice b1 m1 d1)
          have h1 := HR1.out.st4 LBA1.out (.int .i64 s1) (.slice a1 n1 c1) (.int .i64 t1) (.slice b1 m1 d1)
          have h2 := HR2.out.st4 LBA2.out (.int .i64 s1) (.slice a1 n1 c1) (.int .i64 t1) (.slice b1 m1 d1)
          rw [hu] at hb hBZ hBA h1 h2
          unfold st4 at hu
          rw [hu]
          replace KBZ := Lib.hid hBZ
          replace KBA := Lib.hid hBA
          replace HR1 := Lib.hid h1
          replace HR2 := Lib.hid h2
          clear hBZ hBA h1 h2 hu
          replace T := Lib.hid (T.out.trans hb)
          refine ⟨hb, ?_⟩
          clear hb
          refine WT_one 11 rfl (by kernel_rfl) ?_
          unfold stepT
          obtain ⟨-, kx, fx⟩ := KBZ.out
          go_wp2_with fail
          clear kx fx
          obtain ⟨u6, hu⟩ : ∃ u, st4 u5 BZ (.int .i64 s2) (.slice a2 n2 c2) (.int .i64 t2) (.slice b2 m2 d2) = u := ⟨_, rfl⟩
          have hb := below_st4 u5 BZN.out (.int .i64 s2) (.slice a2 n2 c2) (.int .i64 t2) (.slice b2 m2 d2)
          have hBZ := KBZ.out.st4 (.int .i64 s2) (.slice a2 n2 c2) (.int .i64 t2) (.slice b2 m2 d2)
          have hBA := KBA.out.st4o (b' := BZ) (by first | exact neBZBA.out | exact fun e => neBABZ.out e.symm) (.int .i64 s2) (.slice a2 n2 c2) (.int .i64 t2) (.slice b2 m2 d2)
          have h1 := HR1.out.st4 LBZ1.out (.int .i64 s2) (.slice a2 n2 c2) (.int .i64 t2) (.slice b2 m2 d2)
          have h2 := HR2.out.st4 LBZ2.out (.int .i64 s2) (.slice a2 n2 c2) (.int .i64 t2) (.slice b2 m2 d2)
          rw [hu] at hb hBZ hBA h1 h2
          unfold st4 at hu
          rw [hu]
          replace KBZ := Lib.hid hBZ
          replace KBA := Lib.hid hBA
          replace HR1 := Lib.hid h1
          replace HR2 := Lib.hid h2
          clear hBZ hBA h1 h2 hu
          replace T := Lib.hid (T.out.trans hb)
          refine ⟨hb, ?_⟩
          clear hb
          refine WT_done (by kernel_rfl) ?_
          go_wp2_with fail
          go_meet
          case rel => exact ⟨BA, BZ, rfl, rfl, Lib.hid ⟨_, _, _, _, _, _, _, _, KBA.out, HR1.out⟩, Lib.hid ⟨_, _, _, _, _, _, _, _, KBZ.out, HR2.out⟩, T⟩
      · unfold stepT
        go_wp2_with fail
        have neBZBA : Hid (BZ ≠ u1.heap.size) := Lib.hid (by have := KBZ.out.1; omega)
        obtain ⟨u2, hwA⟩ : ∃ wA, u1.alloc (.cells #[.int .i64 0, .slice none 0 0, .int .i64 0, .slice none 0 0] 112) = wA := ⟨_, rfl⟩
        rw [hwA]
        have hb : Below u1.heap.size u1 u2 := by subst hwA; exact bAlloc (bSelf _) _
        replace KBZ := Lib.hid (KBZ.out.to hb)
        have KBA : Hid (Blk u2 u1.heap.size #[.int .i64 0, .slice none 0 0, .int .i64 0, .slice none 0 0]) := by subst hwA; exact Blk.new _ _ _
        clear hwA
        have BAN : Hid (W.heap.size ≤ u1.heap.size) := Lib.hid T.out.size
        obtain ⟨BA, hBA⟩ : ∃ N, u1.heap.size = N := ⟨_, rfl⟩
        have hbd := Lib.hid (hb.mono T.out.size)
        replace T := Lib.hid (bThen T.out hb)
        clear hb
        rw [hBA] at KBA BAN neBZBA ⊢
        clear hBA
        refine ⟨hbd.out, ?_⟩
        clear hbd
        refine WT_one 3 rfl (by kernel_rfl) ?_
        unfold stepT
        go_wp2_with fail
        refine (HS1.out _).mono ?_
        rintro e u3 ⟨a1, b1, v1, rfl, hrr, hb, hloc⟩
        have HL := Lib.hid (fun (P : Nat → Prop) (h : ∀ b, u2.heap.size ≤ b → P b) => hloc P h (fun i hi => by cases hi))
        have LBZ1 := Lib.hid (HL.out (fun c => c ≠ BZ) (fun b hb => by have := KBZ.out.1; omega))
        have LBA1 := Lib.hid (HL.out (fun c => c ≠ BA) (fun b hb => by have := KBA.out.1; omega))
        replace KBZ := Lib.hid (KBZ.out.to hb)
        replace KBA := Lib.hid (KBA.out.to hb)
        have HR1 := Lib.hid hrr
        have hbd := Lib.hid (hb.mono T.out.size)
        replace T := Lib.hid (bThen T.out hb)
        obtain ⟨s1, n1, c1, t1, m1, d1, rfl, -, -⟩ := hrr.ex
        clear hb hloc HL hrr
        go_wp2_with fail
        refine ⟨hbd.out, ?_⟩
        clear hbd
        refine WT_one 7 rfl (by kernel_rfl) ?_
        unfold stepT
        go_wp2_with fail
        refine (HS2.out _).mono ?_
        rintro e u4 ⟨a2, b2, v2, rfl, hrr, hb, hloc⟩
        have HL := Lib.hid (fun (P : Nat → Prop) (h : ∀ b, u3.heap.size ≤ b → P b) => hloc P h (fun i hi => by cases hi))
        have LBZ2 := Lib.hid (HL.out (fun c => c ≠ BZ) (fun b hb => by have := KBZ.out.1; omega))
        have LBA2 := Lib.hid (HL.out (fun c => c ≠ BA) (fun b hb => by have := KBA.out.1; omega))
        replace HR1 := Lib.hid (HR1.out.to hb)
        replace KBZ := Lib.hid (KBZ.out.to hb)
        replace KBA := Lib.hid (KBA.out.to hb)
        have HR2 := Lib.hid hrr
        have hbd := Lib.hid (hb.mono T.out.size)
        replace T := Lib.hid (bThen T.out hb)
        obtain ⟨s2, n2, c2, t2, m2, d2, rfl, -, -⟩ := hrr.ex
        clear hb hloc HL hrr
        go_wp2_with fail
        refine ⟨hbd.out, ?_⟩
        clear hbd
        refine WT_one 10 rfl (by kernel_rfl) ?_
        unfold stepT
        obtain ⟨-, kx, fx⟩ := KBA.out
        go_wp2_with fail
        clear kx fx
        obtain ⟨u5, hu⟩ : ∃ u, st4 u4 BA (.int .i64 s1) (.slice a1 n1 c1) (.int .i64 t1) (.slice b1 m1 d1) = u := ⟨_, rfl⟩
        have hb := below_st4 u4 BAN.out (.int .i64 s1) (.slice a1 n1 c1) (.int .i64 t1) (.slice b1 m1 d1)
        have hBZ := KBZ.out.st4o (b' := BA) (by first | exact neBABZ.out | exact fun e => neBZBA.out e.symm) (.int .i64 s1) (.slice a1 n1 c1) (.int .i64 t1) (.slice b1 m1 d1)
        have hBA := KBA.out.st4 (.int .i64 s1) (.slice a1 n1 c1) (.int .i64 t1) (.slice b1 m1 d1)
        have h1 := HR1.out.st4 LBA1.out (.int .i64 s1) (.slice a1 n1 c1) (.int .i64 t1) (.slice b1 m1 d1)
        have h2 := HR2.out.st4 LBA2.out (.int .i64 s1) (.slice a1 n1 c1) (.int .i64 t1) (.slice b1 m1 d1)
        rw [hu] at hb hBZ hBA h1 h2
        unfold st4 at hu
        rw [hu]
        replace KBZ := Lib.hid hBZ
        replace KBA := Lib.hid hBA
        replace HR1 := Lib.hid h1
        replace HR2 := Lib.hid h2
        clear hBZ hBA h1 h2 hu
        replace T := Lib.hid (T.out.trans hb)
        refine ⟨hb, ?_⟩
        clear hb
        refine WT_one 11 rfl (by kernel_rfl) ?_
        unfold stepT
        obtain ⟨-, kx, fx⟩ := KBZ.out
        go_wp2_with fail
        clear kx fx
        obtain ⟨u6, hu⟩ : ∃ u, st4 u5 BZ (.int .i64 s2) (.slice a2 n2 c2) (.int .i64 t2) (.slice b2 m2 d2) = u := ⟨_, rfl⟩
        have hb := below_st4 u5 BZN.out (.int .i64 s2) (.slice a2 n2 c2) (.int .i64 t2) (.slice b2 m2 d2)
        have hBZ := KBZ.out.st4 (.int .i64 s2) (.slice a2 n2 c2) (.int .i64 t2) (.slice b2 m2 d2)
        have hBA := KBA.out.st4o (b' := BZ) (by first | exact neBZBA.out | exact fun e => neBABZ.out e.symm) (.int .i64 s2) (.slice a2 n2 c2) (.int .i64 t2) (.slice b2 m2 d2)
        have h1 := HR1.out.st4 LBZ1.out (.int .i64 s2) (.slice a2 n2 c2) (.int .i64 t2) (.slice b2 m2 d2)
        have h2 := HR2.out.st4 LBZ2.out (.int .i64 s2) (.slice a2 n2 c2) (.int .i64 t2) (.slice b2 m2 d2)
        rw [hu] at hb hBZ hBA h1 h2
        unfold st4 at hu
        rw [hu]
        replace KBZ := Lib.hid hBZ
        replace KBA := Lib.hid hBA
        replace HR1 := Lib.hid h1
        replace HR2 := Lib.hid h2
        clear hBZ hBA h1 h2 hu
        replace T := Lib.hid (T.out.trans hb)
        refine ⟨hb, ?_⟩
        clear hb
        refine WT_done (by kernel_rfl) ?_
        go_wp2_with fail
        go_meet
        case rel => exact ⟨BA, BZ, rfl, rfl, Lib.hid ⟨_, _, _, _, _, _, _, _, KBA.out, HR1.out⟩, Lib.hid ⟨_, _, _, _, _, _, _, _, KBZ.out, HR2.out⟩, T⟩
  obtain ⟨wo, hwo⟩ : ∃ wo, wo = wc := ⟨_, rfl⟩
  subst hwo
  obtain ⟨BA, BZ, rfl, rfl, HA, HZ, HWC⟩ := hcut
  replace K5 := Lib.hid (K5.out.to HWC.out)
  replace HB := Lib.hid (bThen HB.out HWC.out)
  clear HWC K3 K4 HS1 HS2
  go_wp2_with fail
  go_cut [9, 10] from 19 to 24 (fun s9 s10 wc => ∃ BC BD, s9 = .pointer (some ⟨BC, 0, none⟩) ∧ s10 = .pointer (some ⟨BD, 0, none⟩) ∧ Hid (RBlk wc BC (lo, 1)) ∧ Hid (RBlk wc BD (hi, 1)) ∧ Hid (Below wo.heap.size wo wc))
  case first =>
    refine wp_region_tree (by kernel_rfl) (fun wd hwd => ?_)
    have T := Lib.hid hwd
    clear hwd
    refine WT_yes 0 rfl (by kernel_rfl) (fun _ _ _ _ _ h => h) (by rfl) ?_; apply Exists.intro; refine ⟨fun w1 hb1 => ?_, ?_⟩; (focus ((skip; have hb1 := Lib.hid hb1; go_simp); (try (go_bits; try go_simp)); (try (rw [if_pos (by omega)]; try go_simp)); (first | done | (fail) | (with_reducible rfl) | exact rfl)))
    simp only [Act.put, List.setIfInBounds_toArray, List.set_cons_zero, List.set_cons_succ]
    refine WT_yes 1 rfl (by kernel_rfl) (fun _ _ _ _ _ h => h) (by rfl) ?_; apply Exists.intro; refine ⟨fun w1 hb1 => ?_, ?_⟩; (focus (((obtain ⟨-, k5, -⟩ := K5.out.to (T.out.trans hb1)); have hb1 := Lib.hid hb1; go_simp); (try (go_bits; try go_simp)); (try (rw [if_pos (by omega)]; try go_simp)); (first | done | (fail) | (with_reducible rfl) | exact rfl)))
    simp only [Act.put, List.setIfInBounds_toArray, List.set_cons_zero, List.set_cons_succ]
    refine WT_yes 3 rfl (by kernel_rfl) (fun _ _ _ _ _ h => h) (by rfl) ?_; apply Exists.intro; refine ⟨fun w1 hb1 => ?_, ?_⟩; (focus ((skip; have hb1 := Lib.hid hb1; go_simp); (try (go_bits; try go_simp)); (try (rw [if_pos (by omega)]; try go_simp)); (first | done | (fail) | (with_reducible rfl) | exact rfl)))
    simp only [Act.put, List.setIfInBounds_toArray, List.set_cons_zero, List.set_cons_succ]
    refine WT_yes 4 rfl (by kernel_rfl) (fun _ _ _ _ _ h => h) (by rfl) ?_; apply Exists.intro; refine ⟨fun w1 hb1 => ?_, ?_⟩; (focus (((obtain ⟨-, k5, -⟩ := K5.out.to (T.out.trans hb1)); have hb1 := Lib.hid hb1; go_simp); (try (go_bits; try go_simp)); (try (rw [if_pos (by omega)]; try go_simp)); (first | done | (fail) | (with_reducible rfl) | exact rfl)))
    simp only [Act.put, List.setIfInBounds_toArray, List.set_cons_zero, List.set_cons_succ]
    refine WT_three 2 6 7 rfl rfl rfl (by kernel_rfl) ?_ ?_ ?_
    · unfold stepT
      go_wp2_with fail
      refine (HI1.out _).mono ?_
      rintro e u1 ⟨a1, b1, v1, rfl, hrr, hb, hloc⟩
      have HL := Lib.hid (fun (P : Nat → Prop) (h : ∀ b, wd.heap.size ≤ b → P b) => hloc P h (fun i hi => by cases hi))
      have HR1 := Lib.hid hrr
      have hbd := Lib.hid (hb.mono T.out.size)
      replace T := Lib.hid (bThen T.out hb)
      obtain ⟨s1, n1, c1, t1, m1, d1, rfl, -, -⟩ := hrr.ex
      clear hb hloc HL hrr
      go_wp2_with fail
      refine ⟨hbd.out, ?_⟩
      clear hbd
      refine WT_three 5 6 7 rfl rfl rfl (by kernel_rfl) ?_ ?_ ?_
      · unfold stepT
        go_wp2_with fail
        refine (HI2.out _).mono ?_
        rintro e u2 ⟨a2, b2, v2, rfl, hrr, hb, hloc⟩
        have HL := Lib.hid (fun (P : Nat → Prop) (h : ∀ b, u1.heap.size ≤ b → P b) => hloc P h (fun i hi => by cases hi))
        replace HR1 := Lib.hid (HR1.out.to hb)
        have HR2 := Lib.hid hrr
        have hbd := Lib.hid (hb.mono T.out.size)
        replace T := Lib.hid (bThen T.out hb)
        obtain ⟨s2, n2, c2, t2, m2, d2, rfl, -, -⟩ := hrr.ex
        clear hb hloc HL hrr
        go_wp2_with fail
        refine ⟨hbd.out, ?_⟩
        clear hbd
        refine WT_two 6 7 rfl rfl (by kernel_rfl) ?_ ?_
        · unfold stepT
          go_wp2_with fail
          have LBC1 : Hid (Loc (fun c => c ≠ u2.heap.size) a1 _ ∧ Loc (fun c => c ≠ u2.heap.size) b1 _) := Lib.hid (HR1.out.locNe)
          have LBC2 : Hid (Loc (fun c => c ≠ u2.heap.size) a2 _ ∧ Loc (fun c => c ≠ u2.heap.size) b2 _) := Lib.hid (HR2.out.locNe)
          obtain ⟨u3, hwA⟩ : ∃ wA, u2.alloc (.cells #[.int .i64 0, .slice none 0 0, .int .i64 0, .slice none 0 0] 112) = wA := ⟨_, rfl⟩
          rw [hwA]
          have hb : Below u2.heap.size u2 u3 := by subst hwA; exact bAlloc (bSelf _) _
          replace HR1 := Lib.hid (HR1.out.to hb)
          replace HR2 := Lib.hid (HR2.out.to hb)
          have KBC : Hid (Blk u3 u2.heap.size #[.int .i64 0, .slice none 0 0, .int .i64 0, .slice none 0 0]) := by subst hwA; exact Blk.new _ _ _
          clear hwA
          have BCN : Hid (wo.heap.size ≤ u2.heap.size) := Lib.hid T.out.size
          obtain ⟨BC, hBC⟩ : ∃ N, u2.heap.size = N := ⟨_, rfl⟩
          have hbd := Lib.hid (hb.mono T.out.size)
          replace T := Lib.hid (bThen T.out hb)
          clear hb
          rw [hBC] at KBC BCN LBC1 LBC2 ⊢
          clear hBC
          refine ⟨hbd.out, ?_⟩
          clear hbd
          refine WT_one 7 rfl (by kernel_rfl) ?_
          unfold stepT
          go_wp2_with fail
          have LBD1 : Hid (Loc (fun c => c ≠ u3.heap.size) a1 _ ∧ Loc (fun c => c ≠ u3.heap.size) b1 _) := Lib.hid (HR1.out.locNe)
          have LBD2 : Hid (Loc (fun c => c ≠ u3.heap.size) a2 _ ∧ Loc (fun c => c ≠ u3.heap.size) b2 _) := Lib.hid (HR2.out.locNe)
          have neBCBD : Hid (BC ≠ u3.heap.size) := Lib.hid (by have := KBC.out.1; omega)
          obtain ⟨u4, hwA⟩ : ∃ wA, u3.alloc (.cells #[.int .i64 0, .slice none 0 0, .int .i64 0, .slice none 0 0] 112) = wA := ⟨_, rfl⟩
          rw [hwA]
          have hb : Below u3.heap.size u3 u4 := by subst hwA; exact bAlloc (bSelf _) _
          replace HR1 := Lib.hid (HR1.out.to hb)
          replace HR2 := Lib.hid (HR2.out.to hb)
          replace KBC := Lib.hid (KBC.out.to hb)
          have KBD : Hid (Blk u4 u3.heap.size #[.int .i64 0, .slice none 0 0, .int .i64 0, .slice none 0 0]) := by subst hwA; exact Blk.new _ _ _
          clear hwA
          have BDN : Hid (wo.heap.size ≤ u3.heap.size) := Lib.hid T.out.size
          obtain ⟨BD, hBD⟩ : ∃ N, u3.heap.size = N := ⟨_, rfl⟩
          have hbd := Lib.hid (hb.mono T.out.size)
          replace T := Lib.hid (bThen T.out hb)
          clear hb
          rw [hBD] at KBD BDN LBD1 LBD2 neBCBD ⊢
          clear hBD
          refine ⟨hbd.out, ?_⟩
          clear hbd
          refine WT_one 8 rfl (by kernel_rfl) ?_
          unfold stepT
          obtain ⟨-, kx, fx⟩ := KBC.out
          go_wp2_with fail
          clear kx fx
          obtain ⟨u5, hu⟩ : ∃ u, st4 u4 BC (.int .i64 s1) (.slice a1 n1 c1) (.int .i64 t1) (.slice b1 m1 d1) = u := ⟨_, rfl⟩
          have hb := below_st4 u4 BCN.out (.int .i64 s1) (.slice a1 n1 c1) (.int .i64 t1) (.slice b1 m1 d1)
          have hBC := KBC.out.st4 (.int .i64 s1) (.slice a1 n1 c1) (.int .i64 t1) (.slice b1 m1 d1)
          have hBD := KBD.out.st4o (b' := BC) (by first | exact neBCBD.out | exact fun e => neBDBC.out e.symm) (.int .i64 s1) (.slice a1 n1 c1) (.int .i64 t1) (.slice b1 m1 d1)
          have h1 := HR1.out.st4 LBC1.out (.int .i64 s1) (.slice a1 n1 c1) (.int .i64 t1) (.slice b1 m1 d1)
          have h2 := HR2.out.st4 LBC2.out (.int .i64 s1) (.slice a1 n1 c1) (.int .i64 t1) (.slice b1 m1 d1)
          rw [hu] at hb hBC hBD h1 h2
          unfold st4 at hu
          rw [hu]
          replace KBC := Lib.hid hBC
          replace KBD := Lib.hid hBD
          replace HR1 := Lib.hid h1
          replace HR2 := Lib.hid h2
          clear hBC hBD h1 h2 hu
          replace T := Lib.hid (T.out.trans hb)
          refine ⟨hb, ?_⟩
          clear hb
          refine WT_one 9 rfl (by kernel_rfl) ?_
          unfold stepT
          obtain ⟨-, kx, fx⟩ := KBD.out
          go_wp2_with fail
          clear kx fx
          obtain ⟨u6, hu⟩ : ∃ u, st4 u5 BD (.int .i64 s2) (.slice a2 n2 c2) (.int .i64 t2) (.slice b2 m2 d2) = u := ⟨_, rfl⟩
          have hb := below_st4 u5 BDN.out (.int .i64 s2) (.slice a2 n2 c2) (.int .i64 t2) (.slice b2 m2 d2)
          have hBC := KBC.out.st4o (b' := BD) (by first | exact neBDBC.out | exact fun e => neBCBD.out e.symm) (.int .i64 s2) (.slice a2 n2 c2) (.int .i64 t2) (.slice b2 m2 d2)
          have hBD := KBD.out.st4 (.int .i64 s2) (.slice a2 n2 c2) (.int .i64 t2) (.slice b2 m2 d2)
          have h1 := HR1.out.st4 LBD1.out (.int .i64 s2) (.slice a2 n2 c2) (.int .i64 t2) (.slice b2 m2 d2)
          have h2 := HR2.out.st4 LBD2.out (.int .i64 s2) (.slice a2 n2 c2) (.int .i64 t2) (.slice b2 m2 d2)
          rw [hu] at hb hBC hBD h1 h2
          unfold st4 at hu
          rw [hu]
          replace KBC := Lib.hid hBC
          replace KBD := Lib.hid hBD
          replace HR1 := Lib.hid h1
          replace HR2 := Lib.hid h2
          clear hBC hBD h1 h2 hu
          replace T := Lib.hid (T.out.trans hb)
          refine ⟨hb, ?_⟩
          clear hb
          refine WT_done (by kernel_rfl) ?_
          go_wp2_with fail
          go_meet
          case rel => exact ⟨BC, BD, rfl, rfl, Lib.hid ⟨_, _, _, _, _, _, _, _, KBC.out, HR1.out⟩, Lib.hid ⟨_, _, _, _, _, _, _, _, KBD.out, HR2.out⟩, T⟩
        · unfold stepT
          go_wp2_with fail
          have LBD1 : Hid (Loc (fun c => c ≠ u2.heap.size) a1 _ ∧ Loc (fun c => c ≠ u2.heap.size) b1 _) := Lib.hid (HR1.out.locNe)
          have LBD2 : Hid (Loc (fun c => c ≠ u2.heap.size) a2 _ ∧ Loc (fun c => c ≠ u2.heap.size) b2 _) := Lib.hid (HR2.out.locNe)
          obtain ⟨u3, hwA⟩ : ∃ wA, u2.alloc (.cells #[.int .i64 0, .slice none 0 0, .int .i64 0, .slice none 0 0] 112) = wA := ⟨_, rfl⟩
          rw [hwA]
          have hb : Below u2.heap.size u2 u3 := by subst hwA; exact bAlloc (bSelf _) _
          replace HR1 := Lib.hid (HR1.out.to hb)
          replace HR2 := Lib.hid (HR2.out.to hb)
          have KBD : Hid (Blk u3 u2.heap.size #[.int .i64 0, .slice none 0 0, .int .i64 0, .slice none 0 0]) := by subst hwA; exact Blk.new _ _ _
          clear hwA
          have BDN : Hid (wo.heap.size ≤ u2.heap.size) := Lib.hid T.out.size
          obtain ⟨BD, hBD⟩ : ∃ N, u2.heap.size = N := ⟨_, rfl⟩
          have hbd := Lib.hid (hb.mono T.out.size)
          replace T := Lib.hid (bThen T.out hb)
          clear hb
          rw [hBD] at KBD BDN LBD1 LBD2 ⊢
          clear hBD
          refine ⟨hbd.out, ?_⟩
          clear hbd
          refine WT_one 6 rfl (by kernel_rfl) ?_
          unfold stepT
          go_wp2_with fail
          have LBC1 : Hid (Loc (fun c => c ≠ u3.heap.size) a1 _ ∧ Loc (fun c => c ≠ u3.heap.size) b1 _) := Lib.hid (HR1.out.locNe)
          have LBC2 : Hid (Loc (fun c => c ≠ u3.heap.size) a2 _ ∧ Loc (fun c => c ≠ u3.heap.size) b2 _) := Lib.hid (HR2.out.locNe)
          have neBDBC : Hid (BD ≠ u3.heap.size) := Lib.hid (by have := KBD.out.1; omega)
          obtain ⟨u4, hwA⟩ : ∃ wA, u3.alloc (.cells #[.int .i64 0, .slice none 0 0, .int .i64 0, .slice none 0 0] 112) = wA := ⟨_, rfl⟩
          rw [hwA]
          have hb : Below u3.heap.size u3 u4 := by subst hwA; exact bAlloc (bSelf _) _
          replace HR1 := Lib.hid (HR1.out.to hb)
          replace HR2 := Lib.hid (HR2.out.to hb)
          replace KBD := Lib.hid (KBD.out.to hb)
          have KBC : Hid (Blk u4 u3.heap.size #[.int .i64 0, .slice none 0 0, .int .i64 0, .slice none 0 0]) := by subst hwA; exact Blk.new _ _ _
          clear hwA
          have BCN : Hid (wo.heap.size ≤ u3.heap.size) := Lib.hid T.out.size
          obtain ⟨BC, hBC⟩ : ∃ N, u3.heap.size = N := ⟨_, rfl⟩
          have hbd := Lib.hid (hb.mono T.out.size)
          replace T := Lib.hid (bThen T.out hb)
          clear hb
          rw [hBC] at KBC BCN LBC1 LBC2 neBDBC ⊢
          clear hBC
          refine ⟨hbd.out, ?_⟩
          clear hbd
          refine WT_one 8 rfl (by kernel_rfl) ?_
          unfold stepT
          obtain ⟨-, kx, fx⟩ := KBC.out
          go_wp2_with fail
          clear kx fx
          obtain ⟨u5, hu⟩ : ∃ u, st4 u4 BC (.int .i64 s1) (.slice a1 n1 c1) (.int .i64 t1) (.slice b1 m1 d1) = u := ⟨_, rfl⟩
          have hb := below_st4 u4 BCN.out (.int .i64 s1) (.slice a1 n1 c1) (.int .i64 t1) (.slice b1 m1 d1)
          have hBD := KBD.out.st4o (b' := BC) (by first | exact neBCBD.out | exact fun e => neBDBC.out e.symm) (.int .i64 s1) (.slice a1 n1 c1) (.int .i64 t1) (.slice b1 m1 d1)
          have hBC := KBC.out.st4 (.int .i64 s1) (.slice a1 n1 c1) (.int .i64 t1) (.slice b1 m1 d1)
          have h1 := HR1.out.st4 LBC1.out (.int .i64 s1) (.slice a1 n1 c1) (.int .i64 t1) (.slice b1 m1 d1)
          have h2 := HR2.out.st4 LBC2.out (.int .i64 s1) (.slice a1 n1 c1) (.int .i64 t1) (.slice b1 m1 d1)
          rw [hu] at hb hBD hBC h1 h2
          unfold st4 at hu
          rw [hu]
          replace KBD := Lib.hid hBD
          replace KBC := Lib.hid hBC
          replace HR1 := Lib.hid h1
          replace HR2 := Lib.hid h2
          clear hBD hBC h1 h2 hu
          replace T := Lib.hid (T.out.trans hb)
          refine ⟨hb, ?_⟩
          clear hb
          refine WT_one 9 rfl (by kernel_rfl) ?_
          unfold stepT
          obtain ⟨-, kx, fx⟩ := KBD.out
          go_wp2_with fail
          clear kx fx
          obtain ⟨u6, hu⟩ : ∃ u, st4 u5 BD (.int .i64 s2) (.slice a2 n2 c2) (.int .i64 t2) (.slice b2 m2 d2) = u := ⟨_, rfl⟩
          have hb := below_st4 u5 BDN.out (.int .i64 s2) (.slice a2 n2 c2) (.int .i64 t2) (.slice b2 m2 d2)
          have hBD := KBD.out.st4 (.int .i64 s2) (.slice a2 n2 c2) (.int .i64 t2) (.slice b2 m2 d2)
          have hBC := KBC.out.st4o (b' := BD) (by first | exact neBDBC.out | exact fun e => neBCBD.out e.symm) (.int .i64 s2) (.slice a2 n2 c2) (.int .i64 t2) (.slice b2 m2 d2)
          have h1 := HR1.out.st4 LBD1.out (.int .i64 s2) (.slice a2 n2 c2) (.int .i64 t2) (.slice b2 m2 d2)
          have h2 := HR2.out.st4 LBD2.out (.int .i64 s2) (.slice a2 n2 c2) (.int .i64 t2) (.slice b2 m2 d2)
          rw [hu] at hb hBD hBC h1 h2
          unfold st4 at hu
          rw [hu]
          replace KBD := Lib.hid hBD
          replace KBC := Lib.hid hBC
          replace HR1 := Lib.hid h1
          replace HR2 := Lib.hid h2
          clear hBD hBC h1 h2 hu
          replace T := Lib.hid (T.out.trans hb)
          refine ⟨hb, ?_⟩
          clear hb
          refine WT_done (by kernel_rfl) ?_
          go_wp2_with fail
          go_meet
          case rel => exact ⟨BC, BD, rfl, rfl, Lib.hid ⟨_, _, _, _, _, _, _, _, KBC.out, HR1.out⟩, Lib.hid ⟨_, _, _, _, _, _, _, _, KBD.out, HR2.out⟩, T⟩
      · unfold stepT
        go_wp2_with fail
        have LBC1 : Hid (Loc (fun c => c ≠ u1.heap.size) a1 _ ∧ Loc (fun c => c ≠ u1.heap.size) b1 _) := Lib.hid (HR1.out.locNe)
        obtain ⟨u2, hwA⟩ : ∃ wA, u1.alloc (.cells #[.int .i64 0, .slice none 0 0, .int .i64 0, .slice none 0 0] 112) = wA := ⟨_, rfl⟩
        rw [hwA]
        have hb : Below u1.heap.size u1 u2 := by subst hwA; exact bAlloc (bSelf _) _
        replace HR1 := Lib.hid (HR1.out.to hb)
        have KBC : Hid (Blk u2 u1.heap.size #[.int .i64 0, .slice none 0 0, .int .i64 0, .slice none 0 0]) := by subst hwA; exact Blk.new _ _ _
        clear hwA
        have BCN : Hid (wo.heap.size ≤ u1.heap.size) := Lib.hid T.out.size
        obtain ⟨BC, hBC⟩ : ∃ N, u1.heap.size = N := ⟨_, rfl⟩
        have hbd := Lib.hid (hb.mono T.out.size)
        replace T := Lib.hid (bThen T.out hb)
        clear hb
        rw [hBC] at KBC BCN LBC1 ⊢
        clear hBC
        refine ⟨hbd.out, ?_⟩
        clear hbd
        refine WT_two 5 7 rfl rfl (by kernel_rfl) ?_ ?_
        · unfold stepT
          go_wp2_with fail
          refine (HI2.out _).mono ?_
          rintro e u3 ⟨a2, b2, v2, rfl, hrr, hb, hloc⟩
          have HL := Lib.hid (fun (P : Nat → Prop) (h : ∀ b, u2.heap.size ≤ b → P b) => hloc P h (fun i hi => by cases hi))
          have LBC2 := Lib.hid (HL.out (fun c => c ≠ BC) (fun b hb => by have := KBC.out.1; omega))
          replace HR1 := Lib.hid (HR1.out.to hb)
          replace KBC := Lib.hid (KBC.out.to hb)
          have HR2 := Lib.hid hrr
          have hbd := Lib.hid (hb.mono T.out.size)
          replace T := Lib.hid (bThen T.out hb)
          obtain ⟨s2, n2, c2, t2, m2, d2, rfl, -, -⟩ := hrr.ex
          clear hb hloc HL hrr
          go_wp2_with fail
          refine ⟨hbd.out, ?_⟩
          clear hbd
          refine WT_one 7 rfl (by kernel_rfl) ?_
          unfold stepT
          go_wp2_with fail
          have LBD1 : Hid (Loc (fun c => c ≠ u3.heap.size) a1 _ ∧ Loc (fun c => c ≠ u3.heap.size) b1 _) := Lib.hid (HR1.out.locNe)
          have LBD2 : Hid (Loc (fun c => c ≠ u3.heap.size) a2 _ ∧ Loc (fun c => c ≠ u3.heap.size) b2 _) := Lib.hid (HR2.out.locNe)
          have neBCBD : Hid (BC ≠ u3.heap.size) := Lib.hid (by have := KBC.out.1; omega)
          obtain ⟨u4, hwA⟩ : ∃ wA, u3.alloc (.cells #[.int .i64 0, .slice none 0 0, .int .i64 0, .slice none 0 0] 112) = wA := ⟨_, rfl⟩
          rw [hwA]
          have hb : Below u3.heap.size u3 u4 := by subst hwA; exact bAlloc (bSelf _) _
          replace HR1 := Lib.hid (HR1.out.to hb)
          replace HR2 := Lib.hid (HR2.out.to hb)
          replace KBC := Lib.hid (KBC.out.to hb)
          have KBD : Hid (Blk u4 u3.heap.size #[.int .i64 0, .slice none 0 0, .int .i64 0, .slice none 0 0]) := by subst hwA; exact Blk.new _ _ _
          clear hwA
          have BDN : Hid (wo.heap.size ≤ u3.heap.size) := Lib.hid T.out.size
          obtain ⟨BD, hBD⟩ : ∃ N, u3.heap.size = N := ⟨_, rfl⟩
          have hbd := Lib.hid (hb.mono T.out.size)
          replace T := Lib.hid (bThen T.out hb)
          clear hb
          rw [hBD] at KBD BDN LBD1 LBD2 neBCBD ⊢
          clear hBD
          refine ⟨hbd.out, ?_⟩
          clear hbd
          refine WT_one 8 rfl (by kernel_rfl) ?_
          unfold stepT
          obtain ⟨-, kx, fx⟩ := KBC.out
          go_wp2_with fail
          clear kx fx
          obtain ⟨u5, hu⟩ : ∃ u, st4 u4 BC (.int .i64 s1) (.slice a1 n1 c1) (.int .i64 t1) (.slice b1 m1 d1) = u := ⟨_, rfl⟩
          have hb := below_st4 u4 BCN.out (.int .i64 s1) (.slice a1 n1 c1) (.int .i64 t1) (.slice b1 m1 d1)
          have hBC := KBC.out.st4 (.int .i64 s1) (.slice a1 n1 c1) (.int .i64 t1) (.slice b1 m1 d1)
          have hBD := KBD.out.st4o (b' := BC) (by first | exact neBCBD.out | exact fun e => neBDBC.out e.symm) (.int .i64 s1) (.slice a1 n1 c1) (.int .i64 t1) (.slice b1 m1 d1)
          have h1 := HR1.out.st4 LBC1.out (.int .i64 s1) (.slice a1 n1 c1) (.int .i64 t1) (.slice b1 m1 d1)
          have h2 := HR2.out.st4 LBC2.out (.int .i64 s1) (.slice a1 n1 c1) (.int .i64 t1) (.slice b1 m1 d1)
          rw [hu] at hb hBC hBD h1 h2
          unfold st4 at hu
          rw [hu]
          replace KBC := Lib.hid hBC
          replace KBD := Lib.hid hBD
          replace HR1 := Lib.hid h1
          replace HR2 := Lib.hid h2
          clear hBC hBD h1 h2 hu
          replace T := Lib.hid (T.out.trans hb)
          refine ⟨hb, ?_⟩
          clear hb
          refine WT_one 9 rfl (by kernel_rfl) ?_
          unfold stepT
          obtain ⟨-, kx, fx⟩ := KBD.out
          go_wp2_with fail
          clear kx fx
          obtain ⟨u6, hu⟩ : ∃ u, st4 u5 BD (.int .i64 s2) (.slice a2 n2 c2) (.int .i64 t2) (.slice b2 m2 d2) = u := ⟨_, rfl⟩
          have hb := below_st4 u5 BDN.out (.int .i64 s2) (.slice a2 n2 c2) (.int .i64 t2) (.slice b2 m2 d2)
          have hBC := KBC.out.st4o (b' := BD) (by first | exact neBDBC.out | exact fun e => neBCBD.out e.symm) (.int .i64 s2) (.slice a2 n2 c2) (.int .i64 t2) (.slice b2 m2 d2)
          have hBD := KBD.out.st4 (.int .i64 s2) (.slice a2 n2 c2) (.int .i64 t2) (.slice b2 m2 d2)
          have h1 := HR1.out.st4 LBD1.out (.int .i64 s2) (.slice a2 n2 c2) (.int .i64 t2) (.slice b2 m2 d2)
          have h2 := HR2.out.st4 LBD2.out (.int .i64 s2) (.slice a2 n2 c2) (.int .i64 t2) (.slice b2 m2 d2)
          rw [hu] at hb hBC hBD h1 h2
          unfold st4 at hu
          rw [hu]
          replace KBC := Lib.hid hBC
          replace KBD := Lib.hid hBD
          replace HR1 := Lib.hid h1
          replace HR2 := Lib.hid h2
          clear hBC hBD h1 h2 hu
          replace T := Lib.hid (T.out.trans hb)
          refine ⟨hb, ?_⟩
          clear hb
          refine WT_done (by kernel_rfl) ?_
          go_wp2_with fail
          go_meet
          case rel => exact ⟨BC, BD, rfl, rfl, Lib.hid ⟨_, _, _, _, _, _, _, _, KBC.out, HR1.out⟩, Lib.hid ⟨_, _, _, _, _, _, _, _, KBD.out, HR2.out⟩, T⟩
        · unfold stepT
          go_wp2_with fail
          have LBD1 : Hid (Loc (fun c => c ≠ u2.heap.size) a1 _ ∧ Loc (fun c => c ≠ u2.heap.size) b1 _) := Lib.hid (HR1.out.locNe)
          have neBCBD : Hid (BC ≠ u2.heap.size) := Lib.hid (by have := KBC.out.1; omega)
          obtain ⟨u3, hwA⟩ : ∃ wA, u2.alloc (.cells #[.int .i64 0, .slice none 0 0, .int .i64 0, .slice none 0 0] 112) = wA := ⟨_, rfl⟩
          rw [hwA]
          have hb : Below u2.heap.size u2 u3 := by subst hwA; exact bAlloc (bSelf _) _
          replace HR1 := Lib.hid (HR1.out.to hb)
          replace KBC := Lib.hid (KBC.out.to hb)
          have KBD : Hid (Blk u3 u2.heap.size #[.int .i64 0, .slice none 0 0, .int .i64 0, .slice none 0 0]) := by subst hwA; exact Blk.new _ _ _
          clear hwA
          have BDN : Hid (wo.heap.size ≤ u2.heap.size) := Lib.hid T.out.size
          obtain ⟨BD, hBD⟩ : ∃ N, u2.heap.size = N := ⟨_, rfl⟩
          have hbd := Lib.hid (hb.mono T.out.size)
          replace T := Lib.hid (bThen T.out hb)
          clear hb
          rw [hBD] at KBD BDN LBD1 neBCBD ⊢
          clear hBD
          refine ⟨hbd.out, ?_⟩
          clear hbd
          refine WT_one 5 rfl (by kernel_rfl) ?_
          unfold stepT
          go_wp2_with fail
          refine (HI2.out _).mono ?_
          rintro e u4 ⟨a2, b2, v2, rfl, hrr, hb, hloc⟩
          have HL := Lib.hid (fun (P : Nat → Prop) (h : ∀ b, u3.heap.size ≤ b → P b) => hloc P h (fun i hi => by cases hi))
          have LBC2 := Lib.hid (HL.out (fun c => c ≠ BC) (fun b hb => by have := KBC.out.1; omega))
          have LBD2 := Lib.hid (HL.out (fun c => c ≠ BD) (fun b hb => by have := KBD.out.1; omega))
          replace HR1 := Lib.hid (HR1.out.to hb)
          replace KBC := Lib.hid (KBC.out.to hb)
          replace KBD := Lib.hid (KBD.out.to hb)
          have HR2 := Lib.hid hrr
          have hbd := Lib.hid (hb.mono T.out.size)
          replace T := Lib.hid (bThen T.out hb)
          obtain ⟨s2, n2, c2, t2, m2, d2, rfl, -, -⟩ := hrr.ex
          clear hb hloc HL hrr
          go_wp2_with fail
          refine ⟨hbd.out, ?_⟩
          clear hbd
          refine WT_one 8 rfl (by kernel_rfl) ?_
          unfold stepT
          obtain ⟨-, kx, fx⟩ := KBC.out
          go_wp2_with fail
          clear kx fx
          obtain ⟨u5, hu⟩ : ∃ u, st4 u4 BC (.int .i64 s1) (.slice a1 n1 c1) (.int .i64 t1) (.slice b1 m1 d1) = u := ⟨_, rfl⟩
          have hb := below_st4 u4 BCN.out (.int .i64 s1) (.slice a1 n1 c1) (.int .i64 t1) (.slice b1 m1 d1)
          have hBC := KBC.out.st4 (.int .i64 s1) (.slice a1 n1 c1) (.int .i64 t1) (.slice b1 m1 d1)
          have hBD := KBD.out.st4o (b' := BC) (by first | exact neBCBD.out | exact fun e => neBDBC.out e.symm) (.int .i64 s1) (.slice a1 n1 c1) (.int .i64 t1) (.slice b1 m1 d1)
          have h1 := HR1.out.st4 LBC1.out (.int .i64 s1) (.slice a1 n1 c1) (.int .i64 t1) (.slice b1 m1 d1)
          have h2 := HR2.out.st4 LBC2.out (.int .i64 s1) (.slice a1 n1 c1) (.int .i64 t1) (.slice b1 m1 d1)
          rw [hu] at hb hBC hBD h1 h2
          unfold st4 at hu
          rw [hu]
          replace KBC := Lib.hid hBC
          replace KBD := Lib.hid hBD
          replace HR1 := Lib.hid h1
          replace HR2 := Lib.hid h2
          clear hBC hBD h1 h2 hu
          replace T := Lib.hid (T.out.trans hb)
          refine ⟨hb, ?_⟩
          clear hb
          refine WT_one 9 rfl (by kernel_rfl) ?_
          unfold stepT
          obtain ⟨-, kx, fx⟩ := KBD.out
          go_wp2_with fail
          clear kx fx
          obtain ⟨u6, hu⟩ : ∃ u, st4 u5 BD (.int .i64 s2) (.slice a2 n2 c2) (.int .i64 t2) (.slice b2 m2 d2) = u := ⟨_, rfl⟩
          have hb := below_st4 u5 BDN.out (.int .i64 s2) (.slice a2 n2 c2) (.int .i64 t2) (.slice b2 m2 d2)
          have hBC := KBC.out.st4o (b' := BD) (by first | exact neBDBC.out | exact fun e => neBCBD.out e.symm) (.int .i64 s2) (.slice a2 n2 c2) (.int .i64 t2) (.slice b2 m2 d2)
          have hBD := KBD.out.st4 (.int .i64 s2) (.slice a2 n2 c2) (.int .i64 t2) (.slice b2 m2 d2)
          have h1 := HR1.out.st4 LBD1.out (.int .i64 s2) (.slice a2 n2 c2) (.int .i64 t2) (.slice b2 m2 d2)
          have h2 := HR2.out.st4 LBD2.out (.int .i64 s2) (.slice a2 n2 c2) (.int .i64 t2) (.slice b2 m2 d2)
          rw [hu] at hb hBC hBD h1 h2
          unfold st4 at hu
          rw [hu]
          replace KBC := Lib.hid hBC
          replace KBD := Lib.hid hBD
          replace HR1 := Lib.hid h1
          replace HR2 := Lib.hid h2
          clear hBC hBD h1 h2 hu
          replace T := Lib.hid (T.out.trans hb)
          refine ⟨hb, ?_⟩
          clear hb
          refine WT_done (by kernel_rfl) ?_
          go_wp2_with fail
          go_meet
          case rel => exact ⟨BC, BD, rfl, rfl, Lib.hid ⟨_, _, _, _, _, _, _, _, KBC.out, HR1.out⟩, Lib.hid ⟨_, _, _, _, _, _, _, _, KBD.out, HR2.out⟩, T⟩
      · unfold stepT
        go_wp2_with fail
        have LBD1 : Hid (Loc (fun c => c ≠ u1.heap.size) a1 _ ∧ Loc (fun c => c ≠ u1.heap.size) b1 _) := Lib.hid (HR1.out.locNe)
        obtain ⟨u2, hwA⟩ : ∃ wA, u1.alloc (.cells #[.int .i64 0, .slice none 0 0, .int .i64 0, .slice none 0 0] 112) = wA := ⟨_, rfl⟩
        rw [hwA]
        have hb : Below u1.heap.size u1 u2 := by subst hwA; exact bAlloc (bSelf _) _
        replace HR1 := Lib.hid (HR1.out.to hb)
        have KBD : Hid (Blk u2 u1.heap.size #[.int .i64 0, .slice none 0 0, .int .i64 0, .slice none 0 0]) := by subst hwA; exact Blk.new _ _ _
        clear hwA
        have BDN : Hid (wo.heap.size ≤ u1.heap.size) := Lib.hid T.out.size
        obtain ⟨BD, hBD⟩ : ∃ N, u1.heap.size = N := ⟨_, rfl⟩
        have hbd := Lib.hid (hb.mono T.out.size)
        replace T := Lib.hid (bThen T.out hb)
        clear hb
        rw [hBD] at KBD BDN LBD1 ⊢
        clear hBD
        refine ⟨hbd.out, ?_⟩
        clear hbd
        refine WT_two 5 6 rfl rfl (by kernel_rfl) ?_ ?_
        · unfold stepT
          go_wp2_with fail
          refine (HI2.out _).mono ?_
          rintro e u3 ⟨a2, b2, v2, rfl, hrr, hb, hloc⟩
          have HL := Lib.hid (fun (P : Nat → Prop) (h : ∀ b, u2.heap.size ≤ b → P b) => hloc P h (fun i hi => by cases hi))
          have LBD2 := Lib.hid (HL.out (fun c => c ≠ BD) (fun b hb => by have := KBD.out.1; omega))
          replace HR1 := Lib.hid (HR1.out.to hb)
          replace KBD := Lib.hid (KBD.out.to hb)
          have HR2 := Lib.hid hrr
          have hbd := Lib.hid (hb.mono T.out.size)
          replace T := Lib.hid (bThen T.out hb)
          obtain ⟨s2, n2, c2, t2, m2, d2, rfl, -, -⟩ := hrr.ex
          clear hb hloc HL hrr
          go_wp2_with fail
          refine ⟨hbd.out, ?_⟩
          clear hbd
          refine WT_one 6 rfl (by kernel_rfl) ?_
          unfold stepT
          go_wp2_with fail
          have LBC1 : Hid (Loc (fun c => c ≠ u3.heap.size) a1 _ ∧ Loc (fun c => c ≠ u3.heap.size) b1 _) := Lib.hid (HR1.out.locNe)
          have LBC2 : Hid (Loc (fun c => c ≠ u3.heap.size) a2 _ ∧ Loc (fun c => c ≠ u3.heap.size) b2 _) := Lib.hid (HR2.out.locNe)
          have neBDBC : Hid (BD ≠ u3.heap.size) := Lib.hid (by have := KBD.out.1; omega)
          obtain ⟨u4, hwA⟩ : ∃ wA, u3.alloc (.cells #[.int .i64 0, .slice none 0 0, .int .i64 0, .slice none 0 0] 112) = wA := ⟨_, rfl⟩
          rw [hwA]
          have hb : Below u3.heap.size u3 u4 := by subst hwA; exact bAlloc (bSelf _) _
          replace HR1 := Lib.hid (HR1.out.to hb)
          replace HR2 := Lib.hid (HR2.out.to hb)
          replace KBD := Lib.hid (KBD.out.to hb)
          have KBC : Hid (Blk u4 u3.heap.size #[.int .i64 0, .slice none 0 0, .int .i64 0, .slice none 0 0]) := by subst hwA; exact Blk.new _ _ _
          clear hwA
          have BCN : Hid (wo.heap.size ≤ u3.heap.size) := Lib.hid T.out.size
          obtain ⟨BC, hBC⟩ : ∃ N, u3.heap.size = N := ⟨_, rfl⟩
          have hbd := Lib.hid (hb.mono T.out.size)
          replace T := Lib.hid (bThen T.out hb)
          clear hb
          rw [hBC] at KBC BCN LBC1 LBC2 neBDBC ⊢
          clear hBC
          refine ⟨hbd.out, ?_⟩
          clear hbd
          refine WT_one 8 rfl (by kernel_rfl) ?_
          unfold stepT
          obtain ⟨-, kx, fx⟩ := KBC.out
          go_wp2_with fail
          clear kx fx
          obtain ⟨u5, hu⟩ : ∃ u, st4 u4 BC (.int .i64 s1) (.slice a1 n1 c1) (.int .i64 t1) (.slice b1 m1 d1) = u := ⟨_, rfl⟩
          have hb := below_st4 u4 BCN.out (.int .i64 s1) (.slice a1 n1 c1) (.int .i64 t1) (.slice b1 m1 d1)
          have hBD := KBD.out.st4o (b' := BC) (by first | exact neBCBD.out | exact fun e => neBDBC.out e.symm) (.int .i64 s1) (.slice a1 n1 c1) (.int .i64 t1) (.slice b1 m1 d1)
          have hBC := KBC.out.st4 (.int .i64 s1) (.slice a1 n1 c1) (.int .i64 t1) (.slice b1 m1 d1)
          have h1 := HR1.out.st4 LBC1.out (.int .i64 s1) (.slice a1 n1 c1) (.int .i64 t1) (.slice b1 m1 d1)
          have h2 := HR2.out.st4 LBC2.out (.int .i64 s1) (.slice a1 n1 c1) (.int .i64 t1) (.slice b1 m1 d1)
          rw [hu] at hb hBD hBC h1 h2
          unfold st4 at hu
          rw [hu]
          replace KBD := Lib.hid hBD
          replace KBC := Lib.hid hBC
          replace HR1 := Lib.hid h1
          replace HR2 := Lib.hid h2
          clear hBD hBC h1 h2 hu
          replace T := Lib.hid (T.out.trans hb)
          refine ⟨hb, ?_⟩
          clear hb
          refine WT_one 9 rfl (by kernel_rfl) ?_
          unfold stepT
          obtain ⟨-, kx, fx⟩ := KBD.out
          go_wp2_with fail
          clear kx fx
          obtain ⟨u6, hu⟩ : ∃ u, st4 u5 BD (.int .i64 s2) (.slice a2 n2 c2) (.int .i64 t2) (.slice b2 m2 d2) = u := ⟨_, rfl⟩
          have hb := below_st4 u5 BDN.out (.int .i64 s2) (.slice a2 n2 c2) (.int .i64 t2) (.slice b2 m2 d2)
          have hBD := KBD.out.st4 (.int .i64 s2) (.slice a2 n2 c2) (.int .i64 t2) (.slice b2 m2 d2)
          have hBC := KBC.out.st4o (b' := BD) (by first | exact neBDBC.out | exact fun e => neBCBD.out e.symm) (.int .i64 s2) (.slice a2 n2 c2) (.int .i64 t2) (.slice b2 m2 d2)
          have h1 := HR1.out.st4 LBD1.out (.int .i64 s2) (.slice a2 n2 c2) (.int .i64 t2) (.slice b2 m2 d2)
          have h2 := HR2.out.st4 LBD2.out (.int .i64 s2) (.slice a2 n2 c2) (.int .i64 t2) (.slice b2 m2 d2)
          rw [hu] at hb hBD hBC h1 h2
          unfold st4 at hu
          rw [hu]
          replace KBD := Lib.hid hBD
          replace KBC := Lib.hid hBC
          replace HR1 := Lib.hid h1
          replace HR2 := Lib.hid h2
          clear hBD hBC h1 h2 hu
          replace T := Lib.hid (T.out.trans hb)
          refine ⟨hb, ?_⟩
          clear hb
          refine WT_done (by kernel_rfl) ?_
          go_wp2_with fail
          go_meet
          case rel => exact ⟨BC, BD, rfl, rfl, Lib.hid ⟨_, _, _, _, _, _, _, _, KBC.out, HR1.out⟩, Lib.hid ⟨_, _, _, _, _, _, _, _, KBD.out, HR2.out⟩, T⟩
        · unfold stepT
          go_wp2_with fail
          have LBC1 : Hid (Loc (fun c => c ≠ u2.heap.size) a1 _ ∧ Loc (fun c => c ≠ u2.heap.size) b1 _) := Lib.hid (HR1.out.locNe)
          have neBDBC : Hid (BD ≠ u2.heap.size) := Lib.hid (by have := KBD.out.1; omega)
          obtain ⟨u3, hwA⟩ : ∃ wA, u2.alloc (.cells #[.int .i64 0, .slice none 0 0, .int .i64 0, .slice none 0 0] 112) = wA := ⟨_, rfl⟩
          rw [hwA]
          have hb : Below u2.heap.size u2 u3 := by subst hwA; exact bAlloc (bSelf _) _
          replace HR1 := Lib.hid (HR1.out.to hb)
          replace KBD := Lib.hid (KBD.out.to hb)
          have KBC : Hid (Blk u3 u2.heap.size #[.int .i64 0, .slice none 0 0, .int .i64 0, .slice none 0 0]) := by subst hwA; exact Blk.new _ _ _
          clear hwA
          have BCN : Hid (wo.heap.size ≤ u2.heap.size) := Lib.hid T.out.size
          obtain ⟨BC, hBC⟩ : ∃ N, u2.heap.size = N := ⟨_, rfl⟩
          have hbd := Lib.hid (hb.mono T.out.size)
          replace T := Lib.hid (bThen T.out hb)
          clear hb
          rw [hBC] at KBC BCN LBC1 neBDBC ⊢
          clear hBC
          refine ⟨hbd.out, ?_⟩
          clear hbd
          refine WT_one 5 rfl (by kernel_rfl) ?_
          unfold stepT
          go_wp2_with fail
          refine (HI2.out _).mono ?_
          rintro e u4 ⟨a2, b2, v2, rfl, hrr, hb, hloc⟩
          have HL := Lib.hid (fun (P : Nat → Prop) (h : ∀ b, u3.heap.size ≤ b → P b) => hloc P h (fun i hi => by cases hi))
          have LBD2 := Lib.hid (HL.out (fun c => c ≠ BD) (fun b hb => by have := KBD.out.1; omega))
          have LBC2 := Lib.hid (HL.out (fun c => c ≠ BC) (fun b hb => by have := KBC.out.1; omega))
          replace HR1 := Lib.hid (HR1.out.to hb)
          replace KBD := Lib.hid (KBD.out.to hb)
          replace KBC := Lib.hid (KBC.out.to hb)
          have HR2 := Lib.hid hrr
          have hbd := Lib.hid (hb.mono T.out.size)
          replace T := Lib.hid (bThen T.out hb)
          obtain ⟨s2, n2, c2, t2, m2, d2, rfl, -, -⟩ := hrr.ex
          clear hb hloc HL hrr
          go_wp2_with fail
          refine ⟨hbd.out, ?_⟩
          clear hbd
          refine WT_one 8 rfl (by kernel_rfl) ?_
          unfold stepT
          obtain ⟨-, kx, fx⟩ := KBC.out
          go_wp2_with fail
          clear kx fx
          obtain ⟨u5, hu⟩ : ∃ u, st4 u4 BC (.int .i64 s1) (.slice a1 n1 c1) (.int .i64 t1) (.slice b1 m1 d1) = u := ⟨_, rfl⟩
          have hb := below_st4 u4 BCN.out (.int .i64 s1) (.slice a1 n1 c1) (.int .i64 t1) (.slice b1 m1 d1)
          have hBD := KBD.out.st4o (b' := BC) (by first | exact neBCBD.out | exact fun e => neBDBC.out e.symm) (.int .i64 s1) (.slice a1 n1 c1) (.int .i64 t1) (.slice b1 m1 d1)
          have hBC := KBC.out.st4 (.int .i64 s1) (.slice a1 n1 c1) (.int .i64 t1) (.slice b1 m1 d1)
          have h1 := HR1.out.st4 LBC1.out (.int .i64 s1) (.slice a1 n1 c1) (.int .i64 t1) (.slice b1 m1 d1)
          have h2 := HR2.out.st4 LBC2.out (.int .i64 s1) (.slice a1 n1 c1) (.int .i64 t1) (.slice b1 m1 d1)
          rw [hu] at hb hBD hBC h1 h2
          unfold st4 at hu
          rw [hu]
          replace KBD := Lib.hid hBD
          replace KBC := Lib.hid hBC
          replace HR1 := Lib.hid h1
          replace HR2 := Lib.hid h2
          clear hBD hBC h1 h2 hu
          replace T := Lib.hid (T.out.trans hb)
          refine ⟨hb, ?_⟩
          clear hb
          refine WT_one 9 rfl (by kernel_rfl) ?_
          unfold stepT
          obtain ⟨-, kx, fx⟩ := KBD.out
          go_wp2_with fail
          clear kx fx
          obtain ⟨u6, hu⟩ : ∃ u, st4 u5 BD (.int .i64 s2) (.slice a2 n2 c2) (.int .i64 t2) (.slice b2 m2 d2) = u := ⟨_, rfl⟩
          have hb := below_st4 u5 BDN.out (.int .i64 s2) (.slice a2 n2 c2) (.int .i64 t2) (.slice b2 m2 d2)
          have hBD := KBD.out.st4 (.int .i64 s2) (.slice a2 n2 c2) (.int .i64 t2) (.slice b2 m2 d2)
          have hBC := KBC.out.st4o (b' := BD) (by first | exact neBDBC.out | exact fun e => neBCBD.out e.symm) (.int .i64 s2) (.slice a2 n2 c2) (.int .i64 t2) (.slice b2 m2 d2)
          have h1 := HR1.out.st4 LBD1.out (.int .i64 s2) (.slice a2 n2 c2) (.int .i64 t2) (.slice b2 m2 d2)
          have h2 := HR2.out.st4 LBD2.out (.int .i64 s2) (.slice a2 n2 c2) (.int .i64 t2) (.slice b2 m2 d2)
          rw [hu] at hb hBD hBC h1 h2
          unfold st4 at hu
          rw [hu]
          replace KBD := Lib.hid hBD
          replace KBC := Lib.hid hBC
          replace HR1 := Lib.hid h1
          replace HR2 := Lib.hid h2
          clear hBD hBC h1 h2 hu
          replace T := Lib.hid (T.out.trans hb)
          refine ⟨hb, ?_⟩
          clear hb
          refine WT_done (by kernel_rfl) ?_
          go_wp2_with fail
          go_meet
          case rel => exact ⟨BC, BD, rfl, rfl, Lib.hid ⟨_, _, _, _, _, _, _, _, KBC.out, HR1.out⟩, Lib.hid ⟨_, _, _, _, _, _, _, _, KBD.out, HR2.out⟩, T⟩
    · unfold stepT
      go_wp2_with fail
      obtain ⟨u1, hwA⟩ : ∃ wA, wd.alloc (.cells #[.int .i64 0, .slice none 0 0, .int .i64 0, .slice none 0 0] 112) = wA := ⟨_, rfl⟩
      rw [hwA]
      have hb : Below wd.heap.size wd u1 := by subst hwA; exact bAlloc (bSelf _) _
      have KBC : Hid (Blk u1 wd.heap.size #[.int .i64 0, .slice none 0 0, .int .i64 0, .slice none 0 0]) := by subst hwA; exact Blk.new _ _ _
      clear hwA
      have BCN : Hid (wo.heap.size ≤ wd.heap.size) := Lib.hid T.out.size
      obtain ⟨BC, hBC⟩ : ∃ N, wd.heap.size = N := ⟨_, rfl⟩
      have hbd := Lib.hid (hb.mono T.out.size)
      replace T := Lib.hid (bThen T.out hb)
      clear hb
      rw [hBC] at KBC BCN  ⊢
      clear hBC
      refine ⟨hbd.out, ?_⟩
      clear hbd
      refine WT_two 2 7 rfl rfl (by kernel_rfl) ?_ ?_
      · unfold stepT
        go_wp2_with fail
        refine (HI1.out _).mono ?_
        rintro e u2 ⟨a1, b1, v1, rfl, hrr, hb, hloc⟩
        have HL := Lib.hid (fun (P : Nat → Prop) (h : ∀ b, u1.heap.size ≤ b → P b) => hloc P h (fun i hi => by cases hi))
        have LBC1 := Lib.hid (HL.out (fun c => c ≠ BC) (fun b hb => by have := KBC.out.1; omega))
        replace KBC := Lib.hid (KBC.out.to hb)
        have HR1 := Lib.hid hrr
        have hbd := Lib.hid (hb.mono T.out.size)
        replace T := Lib.hid (bThen T.out hb)
        obtain ⟨s1, n1, c1, t1, m1, d1, rfl, -, -⟩ := hrr.ex
        clear hb hloc HL hrr
        go_wp2_with fail
        refine ⟨hbd.out, ?_⟩
        clear hbd
        refine WT_two 5 7 rfl rfl (by kernel_rfl) ?_ ?_
        · unfold stepT
          go_wp2_with fail
          refine (HI2.out _).mono ?_
          rintro e u3 ⟨a2, b2, v2, rfl, hrr, hb, hloc⟩
          have HL := Lib.hid (fun (P : Nat → Prop) (h : ∀ b, u2.heap.size ≤ b → P b) => hloc P h (fun i hi => by cases hi))
          have LBC2 := Lib.hid (HL.out (fun c => c ≠ BC) (fun b hb => by have := KBC.out.1; omega))
          replace HR1 := Lib.hid (HR1.out.to hb)
          replace KBC := Lib.hid (KBC.out.to hb)
          have HR2 := Lib.hid hrr
          have hbd := Lib.hid (hb.mono T.out.size)
          replace T := Lib.hid (bThen T.out hb)
          obtain ⟨s2, n2, c2, t2, m2, d2, rfl, -, -⟩ := hrr.ex
          clear hb hloc HL hrr
          go_wp2_with fail
          refine ⟨hbd.out, ?_⟩
          clear hbd
          refine WT_one 7 rfl (by kernel_rfl) ?_
          unfold stepT
          go_wp2_with fail
          have LBD1 : Hid (Loc (fun c => c ≠ u3.heap.size) a1 _ ∧ Loc (fun c => c ≠ u3.heap.size) b1 _) := Lib.hid (HR1.out.locNe)
          have LBD2 : Hid (Loc (fun c => c ≠ u3.heap.size) a2 _ ∧ Loc (fun c => c ≠ u3.heap.size) b2 _) := Lib.hid (HR2.out.locNe)
          have neBCBD : Hid (BC ≠ u3.heap.size) := Lib.hid (by have := KBC.out.1; omega)
          obtain ⟨u4, hwA⟩ : ∃ wA, u3.alloc (.cells #[.int .i64 0, .slice none 0 0, .int .i64 0, .slice none 0 0] 112) = wA := ⟨_, rfl⟩
          rw [hwA]
          have hb : Below u3.heap.size u3 u4 := by subst hwA; exact bAlloc (bSelf _) _
          replace HR1 := Lib.hid (HR1.out.to hb)
          replace HR2 := Lib.hid (HR2.out.to hb)
          replace KBC := Lib.hid (KBC.out.to hb)
          have KBD : Hid (Blk u4 u3.heap.size #[.int .i64 0, .slice none 0 0, .int .i64 0, .slice none 0 0]) := by subst hwA; exact Blk.new _ _ _
          clear hwA
          have BDN : Hid (wo.heap.size ≤ u3.heap.size) := Lib.hid T.out.size
          obtain ⟨BD, hBD⟩ : ∃ N, u3.heap.size = N := ⟨_, rfl⟩
          have hbd := Lib.hid (hb.mono T.out.size)
          replace T := Lib.hid (bThen T.out hb)
          clear hb
          rw [hBD] at KBD BDN LBD1 LBD2 neBCBD ⊢
          clear hBD
          refine ⟨hbd.out, ?_⟩
          clear hbd
          refine WT_one 8 rfl (by kernel_rfl) ?_
          unfold stepT
          obtain ⟨-, kx, fx⟩ := KBC.out
          go_wp2_with fail
          clear kx fx
          obtain ⟨u5, hu⟩ : ∃ u, st4 u4 BC (.int .i64 s1) (.slice a1 n1 c1) (.int .i64 t1) (.slice b1 m1 d1) = u := ⟨_, rfl⟩
          have hb := below_st4 u4 BCN.out (.int .i64 s1) (.slice a1 n1 c1) (.int .i64 t1) (.slice b1 m1 d1)
          have hBC := KBC.out.st4 (.int .i64 s1) (.slice a1 n1 c1) (.int .i64 t1) (.slice b1 m1 d1)
          have hBD := KBD.out.st4o (b' := BC) (by first | exact neBCBD.out | exact fun e => neBDBC.out e.symm) (.int .i64 s1) (.slice a1 n1 c1) (.int .i64 t1) (.slice b1 m1 d1)
          have h1 := HR1.out.st4 LBC1.out (.int .i64 s1) (.slice a1 n1 c1) (.int .i64 t1) (.slice b1 m1 d1)
          have h2 := HR2.out.st4 LBC2.out (.int .i64 s1) (.slice a1 n1 c1) (.int .i64 t1) (.slice b1 m1 d1)
          rw [hu] at hb hBC hBD h1 h2
          unfold st4 at hu
          rw [hu]
          replace KBC := Lib.hid hBC
          replace KBD := Lib.hid hBD
          replace HR1 := Lib.hid h1
          replace HR2 := Lib.hid h2
          clear hBC hBD h1 h2 hu
          replace T := Lib.hid (T.out.trans hb)
          refine ⟨hb, ?_⟩
          clear hb
          refine WT_one 9 rfl (by kernel_rfl) ?_
          unfold stepT
          obtain ⟨-, kx, fx⟩ := KBD.out
          go_wp2_with fail
          clear kx fx
          obtain ⟨u6, hu⟩ : ∃ u, st4 u5 BD (.int .i64 s2) (.slice a2 n2 c2) (.int .i64 t2) (.slice b2 m2 d2) = u := ⟨_, rfl⟩
          have hb := below_st4 u5 BDN.out (.int .i64 s2) (.slice a2 n2 c2) (.int .i64 t2) (.slice b2 m2 d2)
          have hBC := KBC.out.st4o (b' := BD) (by first | exact neBDBC.out | exact fun e => neBCBD.out e.symm) (.int .i64 s2) (.slice a2 n2 c2) (.int .i64 t2) (.slice b2 m2 d2)
          have hBD := KBD.out.st4 (.int .i64 s2) (.slice a2 n2 c2) (.int .i64 t2) (.slice b2 m2 d2)
          have h1 := HR1.out.st4 LBD1.out (.int .i64 s2) (.slice a2 n2 c2) (.int .i64 t2) (.slice b2 m2 d2)
          have h2 := HR2.out.st4 LBD2.out (.int .i64 s2) (.slice a2 n2 c2) (.int .i64 t2) (.slice b2 m2 d2)
          rw [hu] at hb hBC hBD h1 h2
          unfold st4 at hu
          rw [hu]
          replace KBC := Lib.hid hBC
          replace KBD := Lib.hid hBD
          replace HR1 := Lib.hid h1
          replace HR2 := Lib.hid h2
          clear hBC hBD h1 h2 hu
          replace T := Lib.hid (T.out.trans hb)
          refine ⟨hb, ?_⟩
          clear hb
          refine WT_done (by kernel_rfl) ?_
          go_wp2_with fail
          go_meet
          case rel => exact ⟨BC, BD, rfl, rfl, Lib.hid ⟨_, _, _, _, _, _, _, _, KBC.out, HR1.out⟩, Lib.hid ⟨_, _, _, _, _, _, _, _, KBD.out, HR2.out⟩, T⟩
        · unfold stepT
          go_wp2_with fail
          have LBD1 : Hid (Loc (fun c => c ≠ u2.heap.size) a1 _ ∧ Loc (fun c => c ≠ u2.heap.size) b1 _) := Lib.hid (HR1.out.locNe)
          have neBCBD : Hid (BC ≠ u2.heap.size) := Lib.hid (by have := KBC.out.1; omega)
          obtain ⟨u3, hwA⟩ : ∃ wA, u2.alloc (.cells #[.int .i64 0, .slice none 0 0, .int .i64 0, .slice none 0 0] 112) = wA := ⟨_, rfl⟩
          rw [hwA]
          have hb : Below u2.heap.size u2 u3 := by subst hwA; exact bAlloc (bSelf _) _
          replace HR1 := Lib.hid (HR1.out.to hb)
          replace KBC := Lib.hid (KBC.out.to hb)
          have KBD : Hid (Blk u3 u2.heap.size #[.int .i64 0, .slice none 0 0, .int .i64 0, .slice none 0 0]) := by subst hwA; exact Blk.new _ _ _
          clear hwA
          have BDN : Hid (wo.heap.size ≤ u2.heap.size) := Lib.hid T.out.size
          obtain ⟨BD, hBD⟩ : ∃ N, u2.heap.size = N := ⟨_, rfl⟩
          have hbd := Lib.hid (hb.mono T.out.size)
          replace T := Lib.hid (bThen T.out hb)
          clear hb
          rw [hBD] at KBD BDN LBD1 neBCBD ⊢
          clear hBD
          refine ⟨hbd.out, ?_⟩
          clear hbd
          refine WT_one 5 rfl (by kernel_rfl) ?_
          unfold stepT
          go_wp2_with fail
          refine (HI2.out _).mono ?_
          rintro e u4 ⟨a2, b2, v2, rfl, hrr, hb, hloc⟩
          have HL := Lib.hid (fun (P : Nat → Prop) (h : ∀ b, u3.heap.size ≤ b → P b) => hloc P h (fun i hi => by cases hi))
          have LBC2 := Lib.hid (HL.out (fun c => c ≠ BC) (fun b hb => by have := KBC.out.1; omega))
          have LBD2 := Lib.hid (HL.out (fun c => c ≠ BD) (fun b hb => by have := KBD.out.1; omega))
          replace HR1 := Lib.hid (HR1.out.to hb)
          replace KBC := Lib.hid (KBC.out.to hb)
          replace KBD := Lib.hid (KBD.out.to hb)
          have HR2 := Lib.hid hrr
          have hbd := Lib.hid (hb.mono T.out.size)
          replace T := Lib.hid (bThen T.out hb)
          obtain ⟨s2, n2, c2, t2, m2, d2, rfl, -, -⟩ := hrr.ex
          clear hb hloc HL hrr
          go_wp2_with fail
          refine ⟨hbd.out, ?_⟩
          clear hbd
          refine WT_one 8 rfl (by kernel_rfl) ?_
          unfold stepT
          obtain ⟨-, kx, fx⟩ := KBC.out
          go_wp2_with fail
          clear kx fx
          obtain ⟨u5, hu⟩ : ∃ u, st4 u4 BC (.int .i64 s1) (.slice a1 n1 c1) (.int .i64 t1) (.slice b1 m1 d1) = u := ⟨_, rfl⟩
          have hb := below_st4 u4 BCN.out (.int .i64 s1) (.slice a1 n1 c1) (.int .i64 t1) (.slice b1 m1 d1)
          have hBC := KBC.out.st4 (.int .i64 s1) (.slice a1 n1 c1) (.int .i64 t1) (.slice b1 m1 d1)
          have hBD := KBD.out.st4o (b' := BC) (by first | exact neBCBD.out | exact fun e => neBDBC.out e.symm) (.int .i64 s1) (.slice a1 n1 c1) (.int .i64 t1) (.slice b1 m1 d1)
          have h1 := HR1.out.st4 LBC1.out (.int .i64 s1) (.slice a1 n1 c1) (.int .i64 t1) (.slice b1 m1 d1)
          have h2 := HR2.out.st4 LBC2.out (.int .i64 s1) (.slice a1 n1 c1) (.int .i64 t1) (.slice b1 m1 d1)
          rw [hu] at hb hBC hBD h1 h2
          unfold st4 at hu
          rw [hu]
          replace KBC := Lib.hid hBC
          replace KBD := Lib.hid hBD
          replace HR1 := Lib.hid h1
          replace HR2 := Lib.hid h2
          clear hBC hBD h1 h2 hu
          replace T := Lib.hid (T.out.trans hb)
          refine ⟨hb, ?_⟩
          clear hb
          refine WT_one 9 rfl (by kernel_rfl) ?_
          unfold stepT
          obtain ⟨-, kx, fx⟩ := KBD.out
          go_wp2_with fail
          clear kx fx
          obtain ⟨u6, hu⟩ : ∃ u, st4 u5 BD (.int .i64 s2) (.slice a2 n2 c2) (.int .i64 t2) (.slice b2 m2 d2) = u := ⟨_, rfl⟩
          have hb := below_st4 u5 BDN.out (.int .i64 s2) (.slice a2 n2 c2) (.int .i64 t2) (.slice b2 m2 d2)
          have hBC := KBC.out.st4o (b' := BD) (by first | exact neBDBC.out | exact fun e => neBCBD.out e.symm) (.int .i64 s2) (.slice a2 n2 c2) (.int .i64 t2) (.slice b2 m2 d2)
          have hBD := KBD.out.st4 (.int .i64 s2) (.slice a2 n2 c2) (.int .i64 t2) (.slice b2 m2 d2)
          have h1 := HR1.out.st4 LBD1.out (.int .i64 s2) (.slice a2 n2 c2) (.int .i64 t2) (.slice b2 m2 d2)
          have h2 := HR2.out.st4 LBD2.out (.int .i64 s2) (.slice a2 n2 c2) (.int .i64 t2) (.slice b2 m2 d2)
          rw [hu] at hb hBC hBD h1 h2
          unfold st4 at hu
          rw [hu]
          replace KBC := Lib.hid hBC
          replace KBD := Lib.hid hBD
          replace HR1 := Lib.hid h1
          replace HR2 := Lib.hid h2
          clear hBC hBD h1 h2 hu
          replace T := Lib.hid (T.out.trans hb)
          refine ⟨hb, ?_⟩
          clear hb
          refine WT_done (by kernel_rfl) ?_
          go_wp2_with fail
          go_meet
          case rel => exact ⟨BC, BD, rfl, rfl, Lib.hid ⟨_, _, _, _, _, _, _, _, KBC.out, HR1.out⟩, Lib.hid ⟨_, _, _, _, _, _, _, _, KBD.out, HR2.out⟩, T⟩
      · unfold stepT
        go_wp2_with fail
        have neBCBD : Hid (BC ≠ u1.heap.size) := Lib.hid (by have := KBC.out.1; omega)
        obtain ⟨u2, hwA⟩ : ∃ wA, u1.alloc (.cells #[.int .i64 0, .slice none 0 0, .int .i64 0, .slice none 0 0] 112) = wA := ⟨_, rfl⟩
        rw [hwA]
        have hb : Below u1.heap.size u1 u2 := by subst hwA; exact bAlloc (bSelf _) _
        replace KBC := Lib.hid (KBC.out.to hb)
        have KBD : Hid (Blk u2 u1.heap.size #[.int .i64 0, .slice none 0 0, .int .i64 0, .slice none 0 0]) := by subst hwA; exact Blk.new _ _ _
        clear hwA
        have BDN : Hid (wo.heap.size ≤ u1.heap.size) := Lib.hid T.out.size
        obtain ⟨BD, hBD⟩ : ∃ N, u1.heap.size = N := ⟨_, rfl⟩
        have hbd := Lib.hid (hb.mono T.out.size)
        replace T := Lib.hid (bThen T.out hb)
        clear hb
        rw [hBD] at KBD BDN neBCBD ⊢
        clear hBD
        refine ⟨hbd.out, ?_⟩
        clear hbd
        refine WT_one 2 rfl (by kernel_rfl) ?_
        unfold stepT
        go_wp2_with fail
        refine (HI1.out _).mono ?_
        rintro e u3 ⟨a1, b1, v1, rfl, hrr, hb, hloc⟩
        have HL := Lib.hid (fun (P : Nat → Prop) (h : ∀ b, u2.heap.size ≤ b → P b) => hloc P h (fun i hi => by cases hi))
        have LBC1 := Lib.hid (HL.out (fun c => c ≠ BC) (fun b hb => by have := KBC.out.1; omega))
        have LBD1 := Lib.hid (HL.out (fun c => c ≠ BD) (fun b hb => by have := KBD.out.1; omega))
        replace KBC := Lib.hid (KBC.out.to hb)
        replace KBD := Lib.hid (KBD.out.to hb)
        have HR1 := Lib.hid hrr
        have hbd := Lib.hid (hb.mono T.out.size)
        replace T := Lib.hid (bThen T.out hb)
        obtain ⟨s1, n1, c1, t1, m1, d1, rfl, -, -⟩ := hrr.ex
        clear hb hloc HL hrr
        go_wp2_with fail
        refine ⟨hbd.out, ?_⟩
        clear hbd
        refine WT_one 5 rfl (by kernel_rfl) ?_
        unfold stepT
        go_wp2_with fail
        refine (HI2.out _).mono ?_
        rintro e u4 ⟨a2, b2, v2, rfl, hrr, hb, hloc⟩
        have HL := Lib.hid (fun (P : Nat → Prop) (h : ∀ b, u3.heap.size ≤ b → P b) => hloc P h (fun i hi => by cases hi))
        have LBC2 := Lib.hid (HL.out (fun c => c ≠ BC) (fun b hb => by have := KBC.out.1; omega))
        have LBD2 := Lib.hid (HL.out (fun c => c ≠ BD) (fun b hb => by have := KBD.out.1; omega))
        replace HR1 := Lib.hid (HR1.out.to hb)
        replace KBC := Lib.hid (KBC.out.to hb)
        replace KBD := Lib.hid (KBD.out.to hb)
        have HR2 := Lib.hid hrr
        have hbd := Lib.hid (hb.mono T.out.size)
        replace T := Lib.hid (bThen T.out hb)
        obtain ⟨s2, n2, c2, t2, m2, d2, rfl, -, -⟩ := hrr.ex
        clear hb hloc HL hrr
        go_wp2_with fail
        refine ⟨hbd.out, ?_⟩
        clear hbd
        refine WT_one 8 rfl (by kernel_rfl) ?_
        unfold stepT
        obtain ⟨-, kx, fx⟩ := KBC.out
        go_wp2_with fail
        clear kx fx
        obtain ⟨u5, hu⟩ : ∃ u, st4 u4 BC (.int .i64 s1) (.slice a1 n1 c1) (.int .i64 t1) (.slice b1 m1 d1) = u := ⟨_, rfl⟩
        have hb := below_st4 u4 BCN.out (.int .i64 s1) (.slice a1 n1 c1) (.int .i64 t1) (.slice b1 m1 d1)
        have hBC := KBC.out.st4 (.int .i64 s1) (.slice a1 n1 c1) (.int .i64 t1) (.slice b1 m1 d1)
        have hBD := KBD.out.st4o (b' := BC) (by first | exact neBCBD.out | exact fun e => neBDBC.out e.symm) (.int .i64 s1) (.slice a1 n1 c1) (.int .i64 t1) (.slice b1 m1 d1)
        have h1 := HR1.out.st4 LBC1.out (.int .i64 s1) (.slice a1 n1 c1) (.int .i64 t1) (.slice b1 m1 d1)
        have h2 := HR2.out.st4 LBC2.out (.int .i64 s1) (.slice a1 n1 c1) (.int .i64 t1) (.slice b1 m1 d1)
        rw [hu] at hb hBC hBD h1 h2
        unfold st4 at hu
        rw [hu]
        replace KBC := Lib.hid hBC
        replace KBD := Lib.hid hBD
        replace HR1 := Lib.hid h1
        replace HR2 := Lib.hid h2
        clear hBC hBD h1 h2 hu
        replace T := Lib.hid (T.out.trans hb)
        refine ⟨hb, ?_⟩
        clear hb
        refine WT_one 9 rfl (by kernel_rfl) ?_
        unfold stepT
        obtain ⟨-, kx, fx⟩ := KBD.out
        go_wp2_with fail
        clear kx fx
        obtain ⟨u6, hu⟩ : ∃ u, st4 u5 BD (.int .i64 s2) (.slice a2 n2 c2) (.int .i64 t2) (.slice b2 m2 d2) = u := ⟨_, rfl⟩
        have hb := below_st4 u5 BDN.out (.int .i64 s2) (.slice a2 n2 c2) (.int .i64 t2) (.slice b2 m2 d2)
        have hBC := KBC.out.st4o (b' := BD) (by first | exact neBDBC.out | exact fun e => neBCBD.out e.symm) (.int .i64 s2) (.slice a2 n2 c2) (.int .i64 t2) (.slice b2 m2 d2)
        have hBD := KBD.out.st4 (.int .i64 s2) (.slice a2 n2 c2) (.int .i64 t2) (.slice b2 m2 d2)
        have h1 := HR1.out.st4 LBD1.out (.int .i64 s2) (.slice a2 n2 c2) (.int .i64 t2) (.slice b2 m2 d2)
        have h2 := HR2.out.st4 LBD2.out (.int .i64 s2) (.slice a2 n2 c2) (.int .i64 t2) (.slice b2 m2 d2)
        rw [hu] at hb hBC hBD h1 h2
        unfold st4 at hu
        rw [hu]
        replace KBC := Lib.hid hBC
        replace KBD := Lib.hid hBD
        replace HR1 := Lib.hid h1
        replace HR2 := Lib.hid h2
        clear hBC hBD h1 h2 hu
        replace T := Lib.hid (T.out.trans hb)
        refine ⟨hb, ?_⟩
        clear hb
        refine WT_done (by kernel_rfl) ?_
        go_wp2_with fail
        go_meet
        case rel => exact ⟨BC, BD, rfl, rfl, Lib.hid ⟨_, _, _, _, _, _, _, _, KBC.out, HR1.out⟩, Lib.hid ⟨_, _, _, _, _, _, _, _, KBD.out, HR2.out⟩, T⟩
    · unfold stepT
      go_wp2_with fail
      obtain ⟨u1, hwA⟩ : ∃ wA, wd.alloc (.cells #[.int .i64 0, .slice none 0 0, .int .i64 0, .slice none 0 0] 112) = wA := ⟨_, rfl⟩
      rw [hwA]
      have hb : Below wd.heap.size wd u1 := by subst hwA; exact bAlloc (bSelf _) _
      have KBD : Hid (Blk u1 wd.heap.size #[.int .i64 0, .slice none 0 0, .int .i64 0, .slice none 0 0]) := by subst hwA; exact Blk.new _ _ _
      clear hwA
      have BDN : Hid (wo.heap.size ≤ wd.heap.size) := Lib.hid T.out.size
      obtain ⟨BD, hBD⟩ : ∃ N, wd.heap.size = N := ⟨_, rfl⟩
      have hbd := Lib.hid (hb.mono T.out.size)
      replace T := Lib.hid (bThen T.out hb)
      clear hb
      rw [hBD] at KBD BDN  ⊢
      clear hBD
      refine ⟨hbd.out, ?_⟩
      clear hbd
      refine WT_two 2 6 rfl rfl (by kernel_rfl) ?_ ?_
      · unfold stepT
        go_wp2_with fail
        refine (HI1.out _).mono ?_
        rintro e u2 ⟨a1, b1, v1, rfl, hrr, hb, hloc⟩
        have HL := Lib.hid (fun (P : Nat → Prop) (h : ∀ b, u1.heap.size ≤ b → P b) => hloc P h (fun i hi => by cases hi))
        have LBD1 := Lib.hid (HL.out (fun c => c ≠ BD) (fun b hb => by have := KBD.out.1; omega))
        replace KBD := Lib.hid (KBD.out.to hb)
        have HR1 := Lib.hid hrr
        have hbd := Lib.hid (hb.mono T.out.size)
        replace T := Lib.hid (bThen T.out hb)
        obtain ⟨s1, n1, c1, t1, m1, d1, rfl, -, -⟩ := hrr.ex
        clear hb hloc HL hrr
        go_wp2_with fail
        refine ⟨hbd.out, ?_⟩
        clear hbd
        refine WT_two 5 6 rfl rfl (by kernel_rfl) ?_ ?_
        · unfold stepT
          go_wp2_with fail
          refine (HI2.out _).mono ?_
          rintro e u3 ⟨a2, b2, v2, rfl, hrr, hb, hloc⟩
          have HL := Lib.hid (fun (P : Nat → Prop) (h : ∀ b, u2.heap.size ≤ b → P b) => hloc P h (fun i hi => by cases hi))
          have LBD2 := Lib.hid (HL.out (fun c => c ≠ BD) (fun b hb => by have := KBD.out.1; omega))
          replace HR1 := Lib.hid (HR1.out.to hb)
          replace KBD := Lib.hid (KBD.out.to hb)
          have HR2 := Lib.hid hrr
          have hbd := Lib.hid (hb.mono T.out.size)
          replace T := Lib.hid (bThen T.out hb)
          obtain ⟨s2, n2, c2, t2, m2, d2, rfl, -, -⟩ := hrr.ex
          clear hb hloc HL hrr
          go_wp2_with fail
          refine ⟨hbd.out, ?_⟩
          clear hbd
          refine WT_one 6 rfl (by kernel_rfl) ?_
          unfold stepT
          go_wp2_with fail
          have LBC1 : Hid (Loc (fun c => c ≠ u3.heap.size) a1 _ ∧ Loc (fun c => c ≠ u3.heap.size) b1 _) := Lib.hid (HR1.out.locNe)
          have LBC2 : Hid (Loc (fun c => c ≠ u3.heap.size) a2 _ ∧ Loc (fun c => c ≠ u3.heap.size) b2 _) := Lib.hid (HR2.out.locNe)
          have neBDBC : Hid (BD ≠ u3.heap.size) := Lib.hid (by have := KBD.out.1; omega)
          obtain ⟨u4, hwA⟩ : ∃ wA, u3.alloc (.cells #[.int .i64 0, .slice none 0 0, .int .i64 0, .slice none 0 0] 112) = wA := ⟨_, rfl⟩
          rw [hwA]
          have hb : Below u3.heap.size u3 u4 := by subst hwA; exact bAlloc (bSelf _) _
          replace HR1 := Lib.hid (HR1.out.to hb)
          replace HR2 := Lib.hid (HR2.out.to hb)
          replace KBD := Lib.hid (KBD.out.to hb)
          have KBC : Hid (Blk u4 u3.heap.size #[.int .i64 0, .slice none 0 0, .int .i64 0, .slice none 0 0]) := by subst hwA; exact Blk.new _ _ _
          clear hwA
          have BCN : Hid (wo.heap.size ≤ u3.heap.size) := Lib.hid T.out.size
          obtain ⟨BC, hBC⟩ : ∃ N, u3.heap.size = N := ⟨_, rfl⟩
          have hbd := Lib.hid (hb.mono T.out.size)
          replace T := Lib.hid (bThen T.out hb)
          clear hb
          rw [hBC] at KBC BCN LBC1 LBC2 neBDBC ⊢
          clear hBC
          refine ⟨hbd.out, ?_⟩
          clear hbd
          refine WT_one 8 rfl (by kernel_rfl) ?_
          unfold stepT
          obtain ⟨-, kx, fx⟩ := KBC.out
          go_wp2_with fail
          clear kx fx
          obtain ⟨u5, hu⟩ : ∃ u, st4 u4 BC (.int .i64 s1) (.slice a1 n1 c1) (.int .i64 t1) (.slice b1 m1 d1) = u := ⟨_, rfl⟩
          have hb := below_st4 u4 BCN.out (.int .i64 s1) (.slice a1 n1 c1) (.int .i64 t1) (.slice b1 m1 d1)
          have hBD := KBD.out.st4o (b' := BC) (by first | exact neBCBD.out | exact fun e => neBDBC.out e.symm) (.int .i64 s1) (.slice a1 n1 c1) (.int .i64 t1) (.slice b1 m1 d1)
          have hBC := KBC.out.st4 (.int .i64 s1) (.slice a1 n1 c1) (.int .i64 t1) (.slice b1 m1 d1)
          have h1 := HR1.out.st4 LBC1.out (.int .i64 s1) (.slice a1 n1 c1) (.int .i64 t1) (.slice b1 m1 d1)
          have h2 := HR2.out.st4 LBC2.out (.int .i64 s1) (.slice a1 n1 c1) (.int .i64 t1) (.slice b1 m1 d1)
          rw [hu] at hb hBD hBC h1 h2
          unfold st4 at hu
          rw [hu]
          replace KBD := Lib.hid hBD
          replace KBC := Lib.hid hBC
          replace HR1 := Lib.hid h1
          replace HR2 := Lib.hid h2
          clear hBD hBC h1 h2 hu
          replace T := Lib.hid (T.out.trans hb)
          refine ⟨hb, ?_⟩
          clear hb
          refine WT_one 9 rfl (by kernel_rfl) ?_
          unfold stepT
          obtain ⟨-, kx, fx⟩ := KBD.out
          go_wp2_with fail
          clear kx fx
          obtain ⟨u6, hu⟩ : ∃ u, st4 u5 BD (.int .i64 s2) (.slice a2 n2 c2) (.int .i64 t2) (.slice b2 m2 d2) = u := ⟨_, rfl⟩
          have hb := below_st4 u5 BDN.out (.int .i64 s2) (.slice a2 n2 c2) (.int .i64 t2) (.slice b2 m2 d2)
          have hBD := KBD.out.st4 (.int .i64 s2) (.slice a2 n2 c2) (.int .i64 t2) (.slice b2 m2 d2)
          have hBC := KBC.out.st4o (b' := BD) (by first | exact neBDBC.out | exact fun e => neBCBD.out e.symm) (.int .i64 s2) (.slice a2 n2 c2) (.int .i64 t2) (.slice b2 m2 d2)
          have h1 := HR1.out.st4 LBD1.out (.int .i64 s2) (.slice a2 n2 c2) (.int .i64 t2) (.slice b2 m2 d2)
          have h2 := HR2.out.st4 LBD2.out (.int .i64 s2) (.slice a2 n2 c2) (.int .i64 t2) (.slice b2 m2 d2)
          rw [hu] at hb hBD hBC h1 h2
          unfold st4 at hu
          rw [hu]
          replace KBD := Lib.hid hBD
          replace KBC := Lib.hid hBC
          replace HR1 := Lib.hid h1
          replace HR2 := Lib.hid h2
          clear hBD hBC h1 h2 hu
          replace T := Lib.hid (T.out.trans hb)
          refine ⟨hb, ?_⟩
          clear hb
          refine WT_done (by kernel_rfl) ?_
          go_wp2_with fail
          go_meet
          case rel => exact ⟨BC, BD, rfl, rfl, Lib.hid ⟨_, _, _, _, _, _, _, _, KBC.out, HR1.out⟩, Lib.hid ⟨_, _, _, _, _, _, _, _, KBD.out, HR2.out⟩, T⟩
        · unfold stepT
          go_wp2_with fail
          have LBC1 : Hid (Loc (fun c => c ≠ u2.heap.size) a1 _ ∧ Loc (fun c => c ≠ u2.heap.size) b1 _) := Lib.hid (HR1.out.locNe)
          have neBDBC : Hid (BD ≠ u2.heap.size) := Lib.hid (by have := KBD.out.1; omega)
          obtain ⟨u3, hwA⟩ : ∃ wA, u2.alloc (.cells #[.int .i64 0, .slice none 0 0, .int .i64 0, .slice none 0 0] 112) = wA := ⟨_, rfl⟩
          rw [hwA]
          have hb : Below u2.heap.size u2 u3 := by subst hwA; exact bAlloc (bSelf _) _
          replace HR1 := Lib.hid (HR1.out.to hb)
          replace KBD := Lib.hid (KBD.out.to hb)
          have KBC : Hid (Blk u3 u2.heap.size #[.int .i64 0, .slice none 0 0, .int .i64 0, .slice none 0 0]) := by subst hwA; exact Blk.new _ _ _
          clear hwA
          have BCN : Hid (wo.heap.size ≤ u2.heap.size) := Lib.hid T.out.size
          obtain ⟨BC, hBC⟩ : ∃ N, u2.heap.size = N := ⟨_, rfl⟩
          have hbd := Lib.hid (hb.mono T.out.size)
          replace T := Lib.hid (bThen T.out hb)
          clear hb
          rw [hBC] at KBC BCN LBC1 neBDBC ⊢
          clear hBC
          refine ⟨hbd.out, ?_⟩
          clear hbd
          refine WT_one 5 rfl (by kernel_rfl) ?_
          unfold stepT
          go_wp2_with fail
          refine (HI2.out _).mono ?_
          rintro e u4 ⟨a2, b2, v2, rfl, hrr, hb, hloc⟩
          have HL := Lib.hid (fun (P : Nat → Prop) (h : ∀ b, u3.heap.size ≤ b → P b) => hloc P h (fun i hi => by cases hi))
          have LBD2 := Lib.hid (HL.out (fun c => c ≠ BD) (fun b hb => by have := KBD.out.1; omega))
          have LBC2 := Lib.hid (HL.out (fun c => c ≠ BC) (fun b hb => by have := KBC.out.1; omega))
          replace HR1 := Lib.hid (HR1.out.to hb)
          replace KBD := Lib.hid (KBD.out.to hb)
          replace KBC := Lib.hid (KBC.out.to hb)
          have HR2 := Lib.hid hrr
          have hbd := Lib.hid (hb.mono T.out.size)
          replace T := Lib.hid (bThen T.out hb)
          obtain ⟨s2, n2, c2, t2, m2, d2, rfl, -, -⟩ := hrr.ex
          clear hb hloc HL hrr
          go_wp2_with fail
          refine ⟨hbd.out, ?_⟩
          clear hbd
          refine WT_one 8 rfl (by kernel_rfl) ?_
          unfold stepT
          obtain ⟨-, kx, fx⟩ := KBC.out
          go_wp2_with fail
          clear kx fx
          obtain ⟨u5, hu⟩ : ∃ u, st4 u4 BC (.int .i64 s1) (.slice a1 n1 c1) (.int .i64 t1) (.slice b1 m1 d1) = u := ⟨_, rfl⟩
          have hb := below_st4 u4 BCN.out (.int .i64 s1) (.slice a1 n1 c1) (.int .i64 t1) (.slice b1 m1 d1)
          have hBD := KBD.out.st4o (b' := BC) (by first | exact neBCBD.out | exact fun e => neBDBC.out e.symm) (.int .i64 s1) (.slice a1 n1 c1) (.int .i64 t1) (.slice b1 m1 d1)
          have hBC := KBC.out.st4 (.int .i64 s1) (.slice a1 n1 c1) (.int .i64 t1) (.slice b1 m1 d1)
          have h1 := HR1.out.st4 LBC1.out (.int .i64 s1) (.slice a1 n1 c1) (.int .i64 t1) (.slice b1 m1 d1)
          have h2 := HR2.out.st4 LBC2.out (.int .i64 s1) (.slice a1 n1 c1) (.int .i64 t1) (.slice b1 m1 d1)
          rw [hu] at hb hBD hBC h1 h2
          unfold st4 at hu
          rw [hu]
          replace KBD := Lib.hid hBD
          replace KBC := Lib.hid hBC
          replace HR1 := Lib.hid h1
          replace HR2 := Lib.hid h2
          clear hBD hBC h1 h2 hu
          replace T := Lib.hid (T.out.trans hb)
          refine ⟨hb, ?_⟩
          clear hb
          refine WT_one 9 rfl (by kernel_rfl) ?_
          unfold stepT
          obtain ⟨-, kx, fx⟩ := KBD.out
          go_wp2_with fail
          clear kx fx
          obtain ⟨u6, hu⟩ : ∃ u, st4 u5 BD (.int .i64 s2) (.slice a2 n2 c2) (.int .i64 t2) (.slice b2 m2 d2) = u := ⟨_, rfl⟩
          have hb := below_st4 u5 BDN.out (.int .i64 s2) (.slice a2 n2 c2) (.int .i64 t2) (.slice b2 m2 d2)
          have hBD := KBD.out.st4 (.int .i64 s2) (.slice a2 n2 c2) (.int .i64 t2) (.slice b2 m2 d2)
          have hBC := KBC.out.st4o (b' := BD) (by first | exact neBDBC.out | exact fun e => neBCBD.out e.symm) (.int .i64 s2) (.slice a2 n2 c2) (.int .i64 t2) (.slice b2 m2 d2)
          have h1 := HR1.out.st4 LBD1.out (.int .i64 s2) (.slice a2 n2 c2) (.int .i64 t2) (.slice b2 m2 d2)
          have h2 := HR2.out.st4 LBD2.out (.int .i64 s2) (.slice a2 n2 c2) (.int .i64 t2) (.slice b2 m2 d2)
          rw [hu] at hb hBD hBC h1 h2
          unfold st4 at hu
          rw [hu]
          replace KBD := Lib.hid hBD
          replace KBC := Lib.hid hBC
          replace HR1 := Lib.hid h1
          replace HR2 := Lib.hid h2
          clear hBD hBC h1 h2 hu
          replace T := Lib.hid (T.out.trans hb)
          refine ⟨hb, ?_⟩
          clear hb
          refine WT_done (by kernel_rfl) ?_
          go_wp2_with fail
          go_meet
          case rel => exact ⟨BC, BD, rfl, rfl, Lib.hid ⟨_, _, _, _, _, _, _, _, KBC.out, HR1.out⟩, Lib.hid ⟨_, _, _, _, _, _, _, _, KBD.out, HR2.out⟩, T⟩
      · unfold stepT
        go_wp2_with fail
        have neBDBC : Hid (BD ≠ u1.heap.size) := Lib.hid (by have := KBD.out.1; omega)
        obtain ⟨u2, hwA⟩ : ∃ wA, u1.alloc (.cells #[.int .i64 0, .slice none 0 0, .int .i64 0, .slice none 0 0] 112) = wA := ⟨_, rfl⟩
        rw [hwA]
        have hb : Below u1.heap.size u1 u2 := by subst hwA; exact bAlloc (bSelf _) _
        replace KBD := Lib.hid (KBD.out.to hb)
        have KBC : Hid (Blk u2 u1.heap.size #[.int .i64 0, .slice none 0 0, .int .i64 0, .slice none 0 0]) := by subst hwA; exact Blk.new _ _ _
        clear hwA
        have BCN : Hid (wo.heap.size ≤ u1.heap.size) := Lib.hid T.out.size
        obtain ⟨BC, hBC⟩ : ∃ N, u1.heap.size = N := ⟨_, rfl⟩
        have hbd := Lib.hid (hb.mono T.out.size)
        replace T := Lib.hid (bThen T.out hb)
        clear hb
        rw [hBC] at KBC BCN neBDBC ⊢
        clear hBC
        refine ⟨hbd.out, ?_⟩
        clear hbd
        refine WT_one 2 rfl (by kernel_rfl) ?_
        unfold stepT
        go_wp2_with fail
        refine (HI1.out _).mono ?_
        rintro e u3 ⟨a1, b1, v1, rfl, hrr, hb, hloc⟩
        have HL := Lib.hid (fun (P : Nat → Prop) (h : ∀ b, u2.heap.size ≤ b → P b) => hloc P h (fun i hi => by cases hi))
        have LBD1 := Lib.hid (HL.out (fun c => c ≠ BD) (fun b hb => by have := KBD.out.1; omega))
        have LBC1 := Lib.hid (HL.out (fun c => c ≠ BC) (fun b hb => by have := KBC.out.1; omega))
        replace KBD := Lib.hid (KBD.out.to hb)
        replace KBC := Lib.hid (KBC.out.to hb)
        have HR1 := Lib.hid hrr
        have hbd := Lib.hid (hb.mono T.out.size)
        replace T := Lib.hid (bThen T.out hb)
        obtain ⟨s1, n1, c1, t1, m1, d1, rfl, -, -⟩ := hrr.ex
        clear hb hloc HL hrr
        go_wp2_with fail
        refine ⟨hbd.out, ?_⟩
        clear hbd
        refine WT_one 5 rfl (by kernel_rfl) ?_
        unfold stepT
        go_wp2_with fail
        refine (HI2.out _).mono ?_
        rintro e u4 ⟨a2, b2, v2, rfl, hrr, hb, hloc⟩
        have HL := Lib.hid (fun (P : Nat → Prop) (h : ∀ b, u3.heap.size ≤ b → P b) => hloc P h (fun i hi => by cases hi))
        have LBD2 := Lib.hid (HL.out (fun c => c ≠ BD) (fun b hb => by have := KBD.out.1; omega))
        have LBC2 := Lib.hid (HL.out (fun c => c ≠ BC) (fun b hb => by have := KBC.out.1; omega))
        replace HR1 := Lib.hid (HR1.out.to hb)
        replace KBD := Lib.hid (KBD.out.to hb)
        replace KBC := Lib.hid (KBC.out.to hb)
        have HR2 := Lib.hid hrr
        have hbd := Lib.hid (hb.mono T.out.size)
        replace T := Lib.hid (bThen T.out hb)
        obtain ⟨s2, n2, c2, t2, m2, d2, rfl, -, -⟩ := hrr.ex
        clear hb hloc HL hrr
        go_wp2_with fail
        refine ⟨hbd.out, ?_⟩
        clear hbd
        refine WT_one 8 rfl (by kernel_rfl) ?_
        unfold stepT
        obtain ⟨-, kx, fx⟩ := KBC.out
        go_wp2_with fail
        clear kx fx
        obtain ⟨u5, hu⟩ : ∃ u, st4 u4 BC (.int .i64 s1) (.slice a1 n1 c1) (.int .i64 t1) (.slice b1 m1 d1) = u := ⟨_, rfl⟩
        have hb := below_st4 u4 BCN.out (.int .i64 s1) (.slice a1 n1 c1) (.int .i64 t1) (.slice b1 m1 d1)
        have hBD := KBD.out.st4o (b' := BC) (by first | exact neBCBD.out | exact fun e => neBDBC.out e.symm) (.int .i64 s1) (.slice a1 n1 c1) (.int .i64 t1) (.slice b1 m1 d1)
        have hBC := KBC.out.st4 (.int .i64 s1) (.slice a1 n1 c1) (.int .i64 t1) (.slice b1 m1 d1)
        have h1 := HR1.out.st4 LBC1.out (.int .i64 s1) (.slice a1 n1 c1) (.int .i64 t1) (.slice b1 m1 d1)
        have h2 := HR2.out.st4 LBC2.out (.int .i64 s1) (.slice a1 n1 c1) (.int .i64 t1) (.slice b1 m1 d1)
        rw [hu] at hb hBD hBC h1 h2
        unfold st4 at hu
        rw [hu]
        replace KBD := Lib.hid hBD
        replace KBC := Lib.hid hBC
        replace HR1 := Lib.hid h1
        replace HR2 := Lib.hid h2
        clear hBD hBC h1 h2 hu
        replace T := Lib.hid (T.out.trans hb)
        refine ⟨hb, ?_⟩
        clear hb
        refine WT_one 9 rfl (by kernel_rfl) ?_
        unfold stepT
        obtain ⟨-, kx, fx⟩ := KBD.out
        go_wp2_with fail
        clear kx fx
        obtain ⟨u6, hu⟩ : ∃ u, st4 u5 BD (.int .i64 s2) (.slice a2 n2 c2) (.int .i64 t2) (.slice b2 m2 d2) = u := ⟨_, rfl⟩
        have hb := below_st4 u5 BDN.out (.int .i64 s2) (.slice a2 n2 c2) (.int .i64 t2) (.slice b2 m2 d2)
        have hBD := KBD.out.st4 (.int .i64 s2) (.slice a2 n2 c2) (.int .i64 t2) (.slice b2 m2 d2)
        have hBC := KBC.out.st4o (b' := BD) (by first | exact neBDBC.out | exact fun e => neBCBD.out e.symm) (.int .i64 s2) (.slice a2 n2 c2) (.int .i64 t2) (.slice b2 m2 d2)
        have h1 := HR1.out.st4 LBD1.out (.int .i64 s2) (.slice a2 n2 c2) (.int .i64 t2) (.slice b2 m2 d2)
        have h2 := HR2.out.st4 LBD2.out (.int .i64 s2) (.slice a2 n2 c2) (.int .i64 t2) (.slice b2 m2 d2)
        rw [hu] at hb hBD hBC h1 h2
        unfold st4 at hu
        rw [hu]
        replace KBD := Lib.hid hBD
        replace KBC := Lib.hid hBC
        replace HR1 := Lib.hid h1
        replace HR2 := Lib.hid h2
        clear hBD hBC h1 h2 hu
        replace T := Lib.hid (T.out.trans hb)
        refine ⟨hb, ?_⟩
        clear hb
        refine WT_done (by kernel_rfl) ?_
        go_wp2_with fail
        go_meet
        case rel => exact ⟨BC, BD, rfl, rfl, Lib.hid ⟨_, _, _, _, _, _, _, _, KBC.out, HR1.out⟩, Lib.hid ⟨_, _, _, _, _, _, _, _, KBD.out, HR2.out⟩, T⟩
  obtain ⟨wp, hwp⟩ : ∃ wp, wp = wc := ⟨_, rfl⟩
  subst hwp
  obtain ⟨BC, BD, rfl, rfl, HC, HD, HWC⟩ := hcut
  replace HA := Lib.hid (HA.out.to HWC.out)
  replace HZ := Lib.hid (HZ.out.to HWC.out)
  replace HB := Lib.hid (bThen HB.out HWC.out)
  clear HWC K5 HI1 HI2
  obtain ⟨xa1, xa2, xs1, xn1, xc1, xs2, xn2, xc2, ka, ra⟩ := HA.out
  obtain ⟨ya1, ya2, ys1, yn1, yc1, ys2, yn2, yc2, kz, rz⟩ := HZ.out
  obtain ⟨za1, za2, zs1, zn1, zc1, zs2, zn2, zc2, kc, rc⟩ := HC.out
  obtain ⟨ta1, ta2, ts1, tn1, tc1, ts2, tn2, tc2, kd, rd⟩ := HD.out
  have KA := Lib.hid ka
  have KZ := Lib.hid kz
  have KC := Lib.hid kc
  have KD := Lib.hid kd
  have HC1 := Lib.hid (fun W (hb : Below wp.heap.size wp W) => RatioCmp_any (q1, q2) (lo, 1) _ _ _ _ _ _ W (rz.to hb) (rc.to hb) HQ2.out.1 HQ2.out.2 HI3.out.1 HI3.out.2.2)
  have HC2 := Lib.hid (fun W (hb : Below wp.heap.size wp W) => RatioCmp_any (p1, p2) (hi, 1) _ _ _ _ _ _ W (ra.to hb) (rd.to hb) HQ1.out.1 HQ1.out.2 HI3.out.2.1 HI3.out.2.2)
  have HC3 := Lib.hid (fun W (hb : Below wp.heap.size wp W) => RatioCmp_any (p1, p2) (lo, 1) _ _ _ _ _ _ W (ra.to hb) (rc.to hb) HQ1.out.1 HQ1.out.2 HI3.out.1 HI3.out.2.2)
  have HC4 := Lib.hid (fun W (hb : Below wp.heap.size wp W) => RatioCmp_any (q1, q2) (hi, 1) _ _ _ _ _ _ W (rz.to hb) (rd.to hb) HQ2.out.1 HQ2.out.2 HI3.out.2.1 HI3.out.2.2)
  dsimp only at HC1 HC2 HC3 HC4
  unfold cmpQ at HV
  dsimp only at HV
  obtain ⟨c1, hc1⟩ : ∃ c, (q1 * 1 - lo * q2).sign = c := ⟨_, rfl⟩
  obtain ⟨c2, hc2⟩ : ∃ c, (p1 * 1 - hi * p2).sign = c := ⟨_, rfl⟩
  obtain ⟨c3, hc3⟩ : ∃ c, (p1 * 1 - lo * p2).sign = c := ⟨_, rfl⟩
  obtain ⟨c4, hc4⟩ : ∃ c, (q1 * 1 - hi * q2).sign = c := ⟨_, rfl⟩
  rw [hc1] at HC1 HV
  rw [hc2] at HC2 HV
  rw [hc3] at HC3 HV
  rw [hc4] at HC4 HV
  clear hc1 hc2 hc3 hc4 ka kz kc kd ra rz rc rd HA HZ HC HD HQ1 HQ2 HI3
  obtain ⟨-, kz, -⟩ := KZ.out
  obtain ⟨-, kc, -⟩ := KC.out
  go_wp2_with fail
  refine (HC1.out _ (bSelf _)).mono ?_
  rintro e w2 ⟨rfl, hb⟩
  have HB2 := Lib.hid hb
  clear hb kz kc
  cases g1 : decide (c1 < 0) with
  | true =>
    rw [g1] at HV
    go_wp2_with fail
    go_ret
    exact ⟨ret_int (by rw [HV.out]; rfl), bThen HB.out HB2.out⟩
  | false =>
    rw [g1] at HV
    obtain ⟨-, ka, -⟩ := KA.out.to HB2.out
    obtain ⟨-, kd, -⟩ := KD.out.to HB2.out
    go_wp2_with fail
    refine (HC2.out _ HB2.out).mono ?_
    rintro e w3 ⟨rfl, hb⟩
    have HB3 : Hid (Below wp.heap.size wp w3) := Lib.hid (bThen HB2.out hb)
    clear hb ka kd
    cases g2 : decide (0 < c2) with
    | true =>
      rw [g2] at HV
      go_wp2_with fail
      go_ret
      exact ⟨ret_int (by rw [HV.out]; rfl), bThen HB.out HB3.out⟩
    | false =>
      rw [g2] at HV
      obtain ⟨-, ka, -⟩ := KA.out.to HB3.out
      obtain ⟨-, kc, -⟩ := KC.out.to HB3.out
      go_wp2_with fail
      refine (HC3.out _ HB3.out).mono ?_
      rintro e w4 ⟨rfl, hb⟩
      have HB4 : Hid (Below wp.heap.size wp w4) := Lib.hid (bThen HB3.out hb)
      clear hb ka kc
      cases g3 : decide (0 ≤ c3) with
      | false =>
        rw [g3] at HV
        go_wp2_with fail
        go_ret
        exact ⟨ret_int (by rw [HV.out]; rfl), bThen HB.out HB4.out⟩
      | true =>
        rw [g3] at HV
        obtain ⟨-, kz, -⟩ := KZ.out.to HB4.out
        obtain ⟨-, kd, -⟩ := KD.out.to HB4.out
        go_wp2_with fail
        refine (HC4.out _ HB4.out).mono ?_
        rintro e w5 ⟨rfl, hb⟩
        have HB5 : Hid (Below wp.heap.size wp w5) := Lib.hid (bThen HB4.out hb)
        clear hb kz kd
        cases g4 : decide (c4 ≤ 0) with
        | false =>
          rw [g4] at HV
          go_wp2_with fail
          go_ret
          exact ⟨ret_int (by rw [HV.out]; rfl), bThen HB.out HB5.out⟩
        | true =>
          rw [g4] at HV
          go_wp2_with fail
          go_ret
          exact ⟨ret_int (by rw [HV.out]; rfl), bThen HB.out HB5.out⟩

end Go.Proofs.YtjfedpblkejmkaaGreat

