/-
  Texts of this claim, in their build order: V2.
-/
import Derived.Test.YtmofgejoogikfaaTop13
import Derived.Test.YtmofgejoogikfaaTop15
import Derived.Test.YtmofgejoogikfaaTop8

/-
  A node in balance: balanced of package hybrid.
-/
namespace Go.Proofs.Ytmofgejoogikfaa
open Go.RowKit

/-- What is multiplied. -/
def balL (b o a : Int × Int) (k up f : Int) : List (Int × Int) := [((k + up) * o.1, b.2 * a.2), (-k * b.1, o.2 * a.2), (-up * a.1, b.2 * o.2), (-f * o.2, b.2 * a.2)]
theorem balL_sum (b o a : Int × Int) (k up f : Int) : prodTo (balL b o a k up f) 4 = balS b o a k up f := by
  simp only [prodTo, balS, balL, fg, List.getD_cons_zero, List.getD_cons_succ, Int.zero_add]
/-- A fraction with small parts. -/
structure SmF (p : Int × Int) : Prop where
  n0 : -1000000000 ≤ p.1
  n1 : p.1 ≤ 1000000000
  d0 : 1 ≤ p.2
  d1 : p.2 ≤ 1000000000

set_option maxHeartbeats 1600000 in
set_option maxRecDepth 100000 in
theorem balanced_any (b o a : Int × Int) (k up f : Int) (w : World) (hb : SmF b) (ho : SmF o) (ha : SmF a) (k0 : 0 ≤ k) (k1 : k ≤ 20) (u0 : 0 ≤ up) (u1 : up ≤ 20) (f0 : -9000 ≤ f) (f1 : f ≤ 9000) :
    Calls Try.prog 74 #[.agg #[.int .i64 b.1, .int .i64 b.2], .agg #[.int .i64 o.1, .int .i64 o.2], .agg #[.int .i64 a.1, .int .i64 a.2], .int .i64 k, .int .i64 up, .int .i64 f] w
      fun e w' => e = .returned (.bool (decide (balS b o a k up f = 0))) ∧ Below w.heap.size w w' := by
  have HSUM := Lib.hid (balL_sum b o a k up f)
  obtain ⟨b1, b2⟩ := b
  obtain ⟨o1, o2⟩ := o
  obtain ⟨a1, a2⟩ := a
  obtain ⟨hb0, hb1, hb2, hb3⟩ := hb
  obtain ⟨ho0, ho1, ho2, ho3⟩ := ho
  obtain ⟨ha0, ha1, ha2, ha3⟩ := ha
  dsimp only at hb0 hb1 hb2 hb3 ho0 ho1 ho2 ho3 ha0 ha1 ha2 ha3
  obtain ⟨p0, p1⟩ := mul_bd (a := k + up) (b := o1) (A := 40) (B := 1000000000) (by omega) (by omega) (by omega) (by omega)
  obtain ⟨q0, q1⟩ := mul_bd (a := b2) (b := a2) (A := 1000000000) (B := 1000000000) (by omega) (by omega) (by omega) (by omega)
  obtain ⟨r0, r1⟩ := mul_bd (a := -k) (b := b1) (A := 40) (B := 1000000000) (by omega) (by omega) (by omega) (by omega)
  obtain ⟨s0, s1⟩ := mul_bd (a := o2) (b := a2) (A := 1000000000) (B := 1000000000) (by omega) (by omega) (by omega) (by omega)
  obtain ⟨t0, t1⟩ := mul_bd (a := -up) (b := a1) (A := 40) (B := 1000000000) (by omega) (by omega) (by omega) (by omega)
  obtain ⟨x0, x1⟩ := mul_bd (a := b2) (b := o2) (A := 1000000000) (B := 1000000000) (by omega) (by omega) (by omega) (by omega)
  obtain ⟨y0, y1⟩ := mul_bd (a := -f) (b := o2) (A := 9000) (B := 1000000000) (by omega) (by omega) (by omega) (by omega)
  have HPS : Hid (∃ ps : List (Int × Int), ps = balL (b1, b2) (o1, o2) (a1, a2) k up f ∧ ps = [((k + up) * o1, b2 * a2), (-k * b1, o2 * a2), (-up * a1, b2 * o2), (-f * o2, b2 * a2)]) := Lib.hid ⟨_, rfl, rfl⟩
  obtain ⟨m1, hm1⟩ : ∃ m, (k + up) * o1 = m := ⟨_, rfl⟩
  obtain ⟨m2, hm2⟩ : ∃ m, b2 * a2 = m := ⟨_, rfl⟩
  obtain ⟨m3, hm3⟩ : ∃ m, -k * b1 = m := ⟨_, rfl⟩
  obtain ⟨m4, hm4⟩ : ∃ m, o2 * a2 = m := ⟨_, rfl⟩
  obtain ⟨m5, hm5⟩ : ∃ m, -up * a1 = m := ⟨_, rfl⟩
  obtain ⟨m6, hm6⟩ : ∃ m, b2 * o2 = m := ⟨_, rfl⟩
  obtain ⟨m7, hm7⟩ : ∃ m, -f * o2 = m := ⟨_, rfl⟩
  rw [hm1] at p0 p1 HPS
  rw [hm2] at q0 q1 HPS
  rw [hm3] at r0 r1 HPS
  rw [hm4] at s0 s1 HPS
  rw [hm5] at t0 t1 HPS
  rw [hm6] at x0 x1 HPS
  rw [hm7] at y0 y1 HPS
  obtain ⟨e1, e1'⟩ := mul_bd (a := m1) (b := m2) (A := 40000000000) (B := 1000000000000000000) (by omega) (by omega) (by omega) (by omega)
  obtain ⟨e2, e2'⟩ := mul_bd (a := m3) (b := m4) (A := 40000000000) (B := 1000000000000000000) (by omega) (by omega) (by omega) (by omega)
  obtain ⟨e3, e3'⟩ := mul_bd (a := m5) (b := m6) (A := 40000000000) (B := 1000000000000000000) (by omega) (by omega) (by omega) (by omega)
  obtain ⟨e4, e4'⟩ := mul_bd (a := m7) (b := m2) (A := 9000000000000) (B := 1000000000000000000) (by omega) (by omega) (by omega) (by omega)
  have HZ : Hid (∀ W, Reads W (some ⟨w.heap.size + 3, 0, none⟩) 8 (fracs [(m1, m2), (m3, m4), (m5, m6), (m7, m2)]) → Calls Try.prog 113 #[.slice (some ⟨w.heap.size + 3, 0, none⟩) 4 4] W fun e w' => e = .returned (.bool (decide (balS (b1, b2) (o1, o2) (a1, a2) k up f = 0))) ∧ Below W.heap.size W w') := Lib.hid (fun W hr => by
    obtain ⟨ps, hp1, hp2⟩ := HPS.out
    have hs : prodTo ps 4 = balS (b1, b2) (o1, o2) (a1, a2) k up f := by rw [hp1]; exact HSUM.out
    have hs2 : prodTo ps 4 = m1 * m2 + m3 * m4 + m5 * m6 + m7 * m2 := by rw [hp2]; simp only [prodTo, fg, List.getD_cons_zero, List.getD_cons_succ, Int.zero_add]
    have := isZero_any ps (some ⟨w.heap.size + 3, 0, none⟩) 4 W (by rw [hp2]; simp) (fun j hj => by
      rw [hp2] at hj ⊢
      simp only [List.length_cons, List.length_nil] at hj
      rcases (by omega : j = 0 ∨ j = 1 ∨ j = 2 ∨ j = 3) with rfl | rfl | rfl | rfl <;> simp only [fg, List.getD_cons_zero, List.getD_cons_succ] <;> omega)
      (by rw [show ps.length = 4 by rw [hp2]; rfl, hs2]; omega) (by rw [show ps.length = 4 by rw [hp2]; rfl, hp2]; exact hr)
    rw [show ps.length = 4 by rw [hp2]; rfl, hs] at this
    exact this)
  clear HPS HSUM e1 e1' e2 e2' e3 e3' e4 e4'
  obtain ⟨ok, hok⟩ : ∃ ok, decide (balS (b1, b2) (o1, o2) (a1, a2) k up f = 0) = ok := ⟨_, rfl⟩
  rw [hok] at HZ ⊢
  clear hok
  go_enter Try.func74, Try.ntmps74
  go_wp2_with fail
  refine (HZ.out _ (Reads.fresh _ _ _ _ _ 8 (by simp) (fun i hi => ?_))).mono ?_
  · match i, hi with
    | 0, _ => rfl
    | 1, _ => rfl
    | 2, _ => rfl
    | 3, _ => rfl
    | 4, _ => rfl
    | 5, _ => rfl
    | 6, _ => rfl
    | 7, _ => rfl
  rintro e w' ⟨rfl, hb⟩
  have HB := Lib.hid (bThen (bAlloc (bAlloc (bAlloc (bAlloc (bSelf w) _) _) _) _) hb)
  clear hb
  go_wp2_with fail
  go_ret
  exact ⟨rfl, HB.out⟩

end Go.Proofs.Ytmofgejoogikfaa

