/-
  Texts of this claim, in their build order: P1 V2.
-/
import Derived.Test.YtjieojkfpoiabaaChains24
import Derived.Test.YtjieojkfpoiabaaChains22
import Derived.Test.YtjieojkfpoiabaaChains10

/-
  Chains: the plain laws. The displacements over a common multiple; the stiffness; a node's balance as an equation of fractions.
-/
namespace Go.Proofs.Ytjieojkfpoiabaa
open Go.RowKit

theorem fr_ex {n m : Int} (hm : 0 < m) : ∃ g a b : Int, 0 < g ∧ 0 < b ∧ n = g * a ∧ m = g * b ∧ fr n m = (a, b) ∧ g = (Int.gcd n m : Nat) := by
  have h0 : 0 < Int.gcd n m := Nat.pos_of_ne_zero (fun h => by have := (Int.gcd_eq_zero_iff.1 h).2; omega)
  obtain ⟨a, ha⟩ : ((Int.gcd n m : Nat) : Int) ∣ n := Int.gcd_dvd_left ..
  obtain ⟨b, hb⟩ : ((Int.gcd n m : Nat) : Int) ∣ m := Int.gcd_dvd_right ..
  have hg : (0 : Int) < (Int.gcd n m : Nat) := by omega
  have h1 : n.tdiv ((Int.gcd n m : Nat) : Int) = a := by
    conv => lhs; arg 1; rw [ha]
    exact Int.mul_tdiv_cancel_left _ (by omega)
  have h2 : m.tdiv ((Int.gcd n m : Nat) : Int) = b := by
    conv => lhs; arg 1; rw [hb]
    exact Int.mul_tdiv_cancel_left _ (by omega)
  have hp := fr_pos (n := n) hm
  have e : fr n m = (a, b) := by unfold fr; rw [h1, h2]
  rw [e] at hp
  exact ⟨_, a, b, hg, hp, ha, hb, e, rfl⟩
theorem fr_mul {n m : Int} (hm : 0 < m) : (fr n m).1 * m = n * (fr n m).2 := by
  obtain ⟨g, a, b, -, -, h1, h2, h3, -⟩ := fr_ex (n := n) hm
  rw [h3]; subst h1 h2; grind
theorem fr_scale {n m c : Int} (hc : 0 < c) : fr (c * n) (c * m) = fr n m := by
  unfold fr
  have e : ((Int.gcd (c * n) (c * m) : Nat) : Int) = c * (Int.gcd n m : Nat) := by
    rw [Int.gcd_mul_left, Int.natCast_mul]; congr 1; omega
  rw [e, Int.mul_tdiv_mul_of_pos _ _ hc, Int.mul_tdiv_mul_of_pos _ _ hc]
theorem fr_eq {n m n' m' : Int} (hm : 0 < m) (hm' : 0 < m') (h : n * m' = n' * m) : fr n m = fr n' m' := by
  rw [← fr_scale (n := n) (m := m) hm', ← fr_scale (n := n') (m := m') hm]
  congr 1
  · grind
  · grind
/-- The next displacement, over a common multiple. -/
theorem next_eq {p : Int × Int} {N L k S t : Int} (hp : 0 < p.2) (hL : 0 < L) (hk : 0 < k) (ht : L = k * t) (h : p.1 * L = N * p.2) :
    nextAt p (fr S k) = fr (N + S * t) L := by
  have hq := fr_mul (n := S) hk
  have hq0 := fr_pos (n := S) hk
  obtain ⟨q, hqe⟩ : ∃ q, fr S k = q := ⟨_, rfl⟩
  rw [hqe] at hq hq0 ⊢
  unfold nextAt
  have h0 : 0 < Int.gcd p.2 q.2 := Nat.pos_of_ne_zero (fun h => by have := (Int.gcd_eq_zero_iff.1 h).2; omega)
  obtain ⟨a, ha⟩ : ((Int.gcd p.2 q.2 : Nat) : Int) ∣ p.2 := Int.gcd_dvd_left ..
  obtain ⟨b, hb⟩ : ((Int.gcd p.2 q.2 : Nat) : Int) ∣ q.2 := Int.gcd_dvd_right ..
  have hg : (0 : Int) < (Int.gcd p.2 q.2 : Nat) := by omega
  have h1 : p.2.tdiv ((Int.gcd p.2 q.2 : Nat) : Int) = a := by
    conv => lhs; arg 1; rw [ha]
    exact Int.mul_tdiv_cancel_left _ (by omega)
  have h2 : q.2.tdiv ((Int.gcd p.2 q.2 : Nat) : Int) = b := by
    conv => lhs; arg 1; rw [hb]
    exact Int.mul_tdiv_cancel_left _ (by omega)
  rw [h1, h2]
  generalize ((Int.gcd p.2 q.2 : Nat) : Int) = g at *
  have ha0 : 0 < a := Int.pos_of_mul_pos_right (by rw [← ha]; exact hp) (by omega)
  refine fr_eq (Int.mul_pos ha0 hq0) hL ?_
  rw [hb] at hq ⊢
  rw [ha] at h
  grind

/-- The least common multiple of the first stiffnesses. -/
def lcmP (ks : List Int) : Nat → Int
  | 0 => 1
  | k + 1 => (lcmP ks k).tdiv (Int.gcd (lcmP ks k) (gi ks k) : Nat) * gi ks k
theorem lcm_step {L k : Int} (hL : 0 < L) (hk : 0 < k) (M : Int) (h1 : L ∣ M) (h2 : k ∣ M) :
    0 < L.tdiv (Int.gcd L k : Nat) * k ∧ L ∣ L.tdiv (Int.gcd L k : Nat) * k ∧ k ∣ L.tdiv (Int.gcd L k : Nat) * k ∧ L.tdiv (Int.gcd L k : Nat) * k ∣ M := by
  have e : L.tdiv (Int.gcd L k : Nat) * k = (Int.lcm L k : Nat) := by
    obtain ⟨g, a, b, hg, hb, h1, h2, h3, h4⟩ := fr_ex (n := L) hk
    have h5 : L.tdiv (Int.gcd L k : Nat) = a := congrArg Prod.fst h3
    have ha : 0 < a := Int.pos_of_mul_pos_right (by rw [← h1]; exact hL) (by omega)
    have h6 : Int.gcd L k * Int.lcm L k = L.natAbs * k.natAbs := Int.gcd_mul_lcm L k
    have h7 : ((Int.gcd L k : Nat) : Int) * (Int.lcm L k : Nat) = L * k := by
      rw [← Int.natCast_mul, h6, Int.natCast_mul]; congr 1 <;> omega
    rw [h5]
    rw [← h4] at h7
    have : g * (a * k) = g * (Int.lcm L k : Nat) := by rw [h7]; conv => rhs; rw [h1]
                                                       grind
    exact Int.eq_of_mul_eq_mul_left (by omega) this
  rw [e]
  refine ⟨?_, Int.dvd_lcm_left .., Int.dvd_lcm_right .., ?_⟩
  · have : Int.lcm L k ≠ 0 := Int.lcm_ne_zero (by omega) (by omega)
    omega
  · exact Int.coe_lcm_dvd h1 h2
theorem upTo_take (fs : List Int) (n : Nat) : ∀ j, n + j ≤ fs.length → upTo fs n j = ((fs.drop n).take j).sum
  | 0, _ => by simp [upTo]
  | j + 1, h => by
    have ih := upTo_take fs n j (by omega)
    unfold upTo
    rw [gi_take _ j (by rw [List.length_drop]; omega), List.sum_append, ih, gi_drop_at]
    simp
theorem upTo_sum {fs : List Int} {n : Nat} (h : n ≤ fs.length) : upTo fs n (fs.length - n) = (fs.drop n).sum := by
  rw [upTo_take fs n _ (by omega), List.take_of_length_le (by rw [List.length_drop]; omega)]
theorem drop_sum {fs : List Int} {n : Nat} (h : n < fs.length) : (fs.drop n).sum = gi fs n + (fs.drop (n + 1)).sum := by
  have e : gi fs n = fs[n] := by unfold gi; rw [List.getD_eq_getElem?_getD, List.getElem?_eq_getElem h]; rfl
  rw [List.drop_eq_getElem_cons h, List.sum_cons, e]

/-- The force of a spring, and the sums over a common multiple of the stiffnesses. -/
def sprF (fs : List Int) (k : Nat) : Int := gi fs k + upTo fs (k + 1) (fs.length - (k + 1))
def refN (ks fs : List Int) (L : Int) : Nat → Int
  | 0 => 0
  | k + 1 => refN ks fs L k + sprF fs k * L.tdiv (gi ks k)
def refO (ks fs : List Int) (L : Int) : Nat → Nat → Option (List (Int × Int))
  | 0, _ => some []
  | n + 1, k => if fits (fr (refN ks fs L (k + 1)) L) then (refO ks fs L n (k + 1)).map (fr (refN ks fs L (k + 1)) L :: ·) else none
def refS (ks : List Int) (L : Int) : Nat → Int
  | 0 => 0
  | k + 1 => refS ks L k + L.tdiv (gi ks k)

theorem tdiv_ex {L k : Int} (hk : 0 < k) (h : k ∣ L) : L = k * L.tdiv k := by
  obtain ⟨c, rfl⟩ := h
  rw [Int.mul_tdiv_cancel_left _ (by omega)]
theorem lcmP_spec {ks : List Int} (h : ∀ k, k < ks.length → 1 ≤ gi ks k ∧ gi ks k ≤ 20) : ∀ n, n ≤ ks.length → 0 < lcmP ks n ∧ lcmP ks n ∣ 232792560 ∧ ∀ k, k < n → gi ks k ∣ lcmP ks n
  | 0, _ => ⟨by unfold lcmP; decide, ⟨232792560, rfl⟩, fun k hk => by omega⟩
  | n + 1, hn => by
    obtain ⟨h1, h2, h3⟩ := lcmP_spec h n (by omega)
    have h4 := h n (by omega)
    have h5 : gi ks n ∣ 232792560 := by
      generalize gi ks n = x at *
      rcases (by omega : x = 1 ∨ x = 2 ∨ x = 3 ∨ x = 4 ∨ x = 5 ∨ x = 6 ∨ x = 7 ∨ x = 8 ∨ x = 9 ∨ x = 10 ∨ x = 11 ∨ x = 12 ∨ x = 13 ∨ x = 14 ∨ x = 15 ∨ x = 16 ∨ x = 17 ∨ x = 18 ∨ x = 19 ∨ x = 20) with rfl | rfl | rfl | rfl | rfl | rfl | rfl | rfl | rfl | rfl | rfl | rfl | rfl | rfl | rfl | rfl | rfl | rfl | rfl | rfl <;> decide
    obtain ⟨e1, e2, e3, e4⟩ := lcm_step h1 (by omega : 0 < gi ks n) _ h2 h5
    refine ⟨e1, e4, fun k hk => ?_⟩
    by_cases hkn : k = n
    · rw [hkn]; exact e3
    · exact Int.dvd_trans (h3 k (by omega)) e2
theorem moved_eq {ks fs : List Int} (hlen : fs.length = ks.length) (h : ∀ k, k < ks.length → 1 ≤ gi ks k ∧ gi ks k ≤ 20) {L : Int} (hL : 0 < L) (hd : ∀ k, k < ks.length → gi ks k ∣ L) :
    ∀ n k p, k + n ≤ ks.length → 0 < p.2 → p.1 * L = refN ks fs L k * p.2 → movO ks fs n k p = refO ks fs L n k
  | 0, _, _, _, _, _ => rfl
  | n + 1, k, p, hk, h0, hp => by
    have hk1 := (h k (by omega)).1
    have e : nextAt p (ownF ks fs k) = fr (refN ks fs L (k + 1)) L := by
      unfold ownF
      rw [next_eq h0 hL (by omega) (tdiv_ex (by omega) (hd k (by omega))) hp]
      show _ = fr (refN ks fs L k + sprF fs k * L.tdiv (gi ks k)) L
      unfold sprF
      rw [upTo_sum (by omega), ← drop_sum (by omega)]
    unfold movO refO
    rw [e]
    have ih := moved_eq hlen h hL hd n (k + 1) (fr (refN ks fs L (k + 1)) L) (by omega) (fr_pos hL) (fr_mul hL)
    rw [ih]
theorem flex_eq {ks : List Int} (h : ∀ k, k < ks.length → 1 ≤ gi ks k ∧ gi ks k ≤ 20) {L : Int} (hL : 0 < L) (hd : ∀ k, k < ks.length → gi ks k ∣ L) :
    ∀ n, n ≤ ks.length → flexP ks n = fr (refS ks L n) L
  | 0, _ => by
    unfold flexP refS
    rw [fr_eq (n' := 0) (m' := 1) hL (by decide) (by omega)]
    decide
  | n + 1, hn => by
    have ih := flex_eq h hL hd n (by omega)
    have hk1 := (h n (by omega)).1
    have ht := tdiv_ex (by omega : 0 < gi ks n) (hd n (by omega))
    have hm := fr_mul (n := refS ks L n) hL
    have hp := fr_pos (n := refS ks L n) hL
    unfold flexP refS
    rw [ih]
    generalize fr (refS ks L n) L = p at *
    refine fr_eq (Int.mul_pos hp (by omega)) hL ?_
    generalize L.tdiv (gi ks n) = t at *
    generalize gi ks n = K at *
    grind
theorem fr_swap (n m : Int) : fr n m = ((fr m n).2, (fr m n).1) := by unfold fr; rw [Int.gcd_comm]

/-- Fractions as the reference holds them. -/
def rAdd (p q : Int × Int) : Int × Int := fr (p.1 * q.2 + q.1 * p.2) (p.2 * q.2)
def rNeg (p : Int × Int) : Int × Int := (-p.1, p.2)
def rMul (p q : Int × Int) : Int × Int := fr (p.1 * q.1) (p.2 * q.2)
structure Fq (p : Int × Int) (N D : Int) : Prop where
  d0 : 0 < p.2
  D0 : 0 < D
  eq : p.1 * D = N * p.2
theorem Fq.of {N D : Int} (h : 0 < D) : Fq (fr N D) N D := ⟨fr_pos h, h, fr_mul h⟩
theorem Fq.mk' {N D : Int} (h : 0 < D) : Fq (N, D) N D := ⟨h, h, rfl⟩
theorem Fq.add {p q : Int × Int} {N D M E : Int} (h : Fq p N D) (h' : Fq q M E) : Fq (rAdd p q) (N * E + M * D) (D * E) := by
  obtain ⟨a0, a1, a2⟩ := h
  obtain ⟨b0, b1, b2⟩ := h'
  have hpq := Int.mul_pos a0 b0
  refine ⟨fr_pos hpq, Int.mul_pos a1 b1, ?_⟩
  have hm := fr_mul (n := p.1 * q.2 + q.1 * p.2) hpq
  unfold rAdd
  generalize fr (p.1 * q.2 + q.1 * p.2) (p.2 * q.2) = s at *
  refine Int.eq_of_mul_eq_mul_left (a := p.2 * q.2) (by omega) ?_
  grind
theorem Fq.mul {p q : Int × Int} {N D M E : Int} (h : Fq p N D) (h' : Fq q M E) : Fq (rMul p q) (N * M) (D * E) := by
  obtain ⟨a0, a1, a2⟩ := h
  obtain ⟨b0, b1, b2⟩ := h'
  have hpq := Int.mul_pos a0 b0
  refine ⟨fr_pos hpq, Int.mul_pos a1 b1, ?_⟩
  have hm := fr_mul (n := p.1 * q.1) hpq
  unfold rMul
  generalize fr (p.1 * q.1) (p.2 * q.2) = s at *
  refine Int.eq_of_mul_eq_mul_left (a := p.2 * q.2) (by omega) ?_
  grind
theorem Fq.neg {p : Int × Int} {N D : Int} (h : Fq p N D) : Fq (rNeg p) (-N) D := by
  obtain ⟨a0, a1, a2⟩ := h
  exact ⟨a0, a1, by show -p.1 * D = -N * p.2; rw [Int.neg_mul, Int.neg_mul, a2]⟩
theorem Fq.cmp {p q : Int × Int} {N D M E : Int} (h : Fq p N D) (h' : Fq q M E) : (p.1 * q.2 = q.1 * p.2) ↔ (N * E = M * D) := by
  obtain ⟨a0, a1, a2⟩ := h
  obtain ⟨b0, b1, b2⟩ := h'
  constructor
  · intro h
    refine Int.eq_of_mul_eq_mul_left (a := p.2 * q.2) (by have := Int.mul_pos a0 b0; omega) ?_
    grind
  · intro h
    refine Int.eq_of_mul_eq_mul_left (a := D * E) (by have := Int.mul_pos a1 b1; omega) ?_
    grind
/-- The force of a spring as the reference has it. -/
def sprR (k : Int) (o b : Int × Int) : Int × Int := rMul (k, 1) (rAdd (fr o.1 o.2) (rNeg (fr b.1 b.2)))
def spr0 (k : Int) (o : Int × Int) : Int × Int := rMul (k, 1) (fr o.1 o.2)
theorem sprR_fq (k : Int) {o b : Int × Int} (ho : 0 < o.2) (hb : 0 < b.2) : Fq (sprR k o b) (k * (o.1 * b.2 - b.1 * o.2)) (o.2 * b.2) := by
  have h := (Fq.mk' (N := k) (D := 1) (by decide)).mul ((Fq.of (N := o.1) ho).add (Fq.of (N := b.1) hb).neg)
  unfold sprR
  have e1 : k * (o.1 * b.2 + -b.1 * o.2) = k * (o.1 * b.2 - b.1 * o.2) := by grind
  rw [e1, Int.one_mul] at h
  exact h
theorem spr0_fq (k : Int) {o : Int × Int} (ho : 0 < o.2) : Fq (spr0 k o) (k * o.1) o.2 := by
  have h := (Fq.mk' (N := k) (D := 1) (by decide)).mul (Fq.of (N := o.1) ho)
  unfold spr0
  rw [Int.one_mul] at h
  exact h
/-- What the products add up to. -/
def balS (b o a : Int × Int) (k up f : Int) : Int :=
  (k + up) * o.1 * (b.2 * a.2) + -k * b.1 * (o.2 * a.2) + -up * a.1 * (b.2 * o.2) + -f * o.2 * (b.2 * a.2)
theorem bal_end {o b s A : Int × Int} {k F G : Int} (hs : Fq s (k * (o.1 * b.2 - b.1 * o.2)) (o.2 * b.2)) (hA : A = (G, 1)) :
    ((rAdd A (F, 1)).1 * s.2 = s.1 * (rAdd A (F, 1)).2) ↔ balS b o (0, 1) k 0 (F + G) = 0 := by
  subst hA
  rw [Fq.cmp ((Fq.mk' (N := G) (D := 1) (by decide)).add (Fq.mk' (N := F) (D := 1) (by decide))) hs]
  unfold balS
  dsimp only
  constructor
  · intro h; grind
  · intro h; grind
theorem bal_up {o b a s t : Int × Int} {k up F : Int} (ho : 0 < o.2) (hs : Fq s (k * (o.1 * b.2 - b.1 * o.2)) (o.2 * b.2)) (ht : Fq t (up * (a.1 * o.2 - o.1 * a.2)) (a.2 * o.2)) :
    ((rAdd t (F, 1)).1 * s.2 = s.1 * (rAdd t (F, 1)).2) ↔ balS b o a k up F = 0 := by
  rw [Fq.cmp (ht.add (Fq.mk' (N := F) (D := 1) (by decide))) hs]
  unfold balS
  constructor
  · intro h
    refine Int.eq_of_mul_eq_mul_left (a := o.2) (by omega) ?_
    grind
  · intro h
    have h2 : o.2 * ((k + up) * o.1 * (b.2 * a.2) + -k * b.1 * (o.2 * a.2) + -up * a.1 * (b.2 * o.2) + -F * o.2 * (b.2 * a.2)) = 0 := by rw [h, Int.mul_zero]
    grind
theorem spr0_as (k : Int) {o : Int × Int} (ho : 0 < o.2) : Fq (spr0 k o) (k * (o.1 * (0, (1 : Int)).2 - ((0 : Int), (1 : Int)).1 * o.2)) (o.2 * ((0 : Int), (1 : Int)).2) := by
  have h := spr0_fq k ho
  dsimp only
  have e : k * (o.1 * 1 - 0 * o.2) = k * o.1 := by grind
  rw [e, Int.mul_one]
  exact h

end Go.Proofs.Ytjieojkfpoiabaa

/-
  A node in balance: balanced of package hybrid.
-/
namespace Go.Proofs.Ytjieojkfpoiabaa
open Go.RowKit

/-- What is multiplied. -/
def balL (b o a : Int × Int) (k up f : Int) : List (Int × Int) := [((k + up) * o.1, b.2 * a.2), (-k * b.1, o.2 * a.2), (-up * a.1, b.2 * o.2), (-f * o.2, b.2 * a.2)]
theorem balL_sum (b o a : Int × Int) (k up f : Int) : prodTo (balL b o a k up f) 4 = balS b o a k up f := by
  simp only [prodTo, balS, balL, fg, List.getD_cons_zero, List.getD_cons_succ, Int.zero_add]
/-- A fraction with small parts. -/
structure SmF (p : Int × Int) : Prop where
  n0 : -1000000000 ≤ p.1
  n1 : p.1 ≤ 1000000000
  d0 : 1 ≤ p.2
  d1 : p.2 ≤ 1000000000

set_option maxHeartbeats 1600000 in
set_option maxRecDepth 100000 in
theorem balanced_any (b o a : Int × Int) (k up f : Int) (w : World) (hb : SmF b) (ho : SmF o) (ha : SmF a) (k0 : 0 ≤ k) (k1 : k ≤ 20) (u0 : 0 ≤ up) (u1 : up ≤ 20) (f0 : -9000 ≤ f) (f1 : f ≤ 9000) :
    Calls Try.prog 108 #[.agg #[.int .i64 b.1, .int .i64 b.2], .agg #[.int .i64 o.1, .int .i64 o.2], .agg #[.int .i64 a.1, .int .i64 a.2], .int .i64 k, .int .i64 up, .int .i64 f] w
      fun e w' => e = .returned (.bool (decide (balS b o a k up f = 0))) ∧ Below w.heap.size w w' := by
  have HSUM := Lib.hid (balL_sum b o a k up f)
  obtain ⟨b1, b2⟩ := b
  obtain ⟨o1, o2⟩ := o
  obtain ⟨a1, a2⟩ := a
  obtain ⟨hb0, hb1, hb2, hb3⟩ := hb
  obtain ⟨ho0, ho1, ho2, ho3⟩ := ho
  obtain ⟨ha0, ha1, ha2, ha3⟩ := ha
  dsimp only at hb0 hb1 hb2 hb3 ho0 ho1 ho2 ho3 ha0 ha1 ha2 ha3
  obtain ⟨p0, p1⟩ := mul_bd (a := k + up) (b := o1) (A := 40) (B := 1000000000) (by omega) (by omega) (by omega) (by omega)
  obtain ⟨q0, q1⟩ := mul_bd (a := b2) (b := a2) (A := 1000000000) (B := 1000000000) (by omega) (by omega) (by omega) (by omega)
  obtain ⟨r0, r1⟩ := mul_bd (a := -k) (b := b1) (A := 40) (B := 1000000000) (by omega) (by omega) (by omega) (by omega)
  obtain ⟨s0, s1⟩ := mul_bd (a := o2) (b := a2) (A := 1000000000) (B := 1000000000) (by omega) (by omega) (by omega) (by omega)
  obtain ⟨t0, t1⟩ := mul_bd (a := -up) (b := a1) (A := 40) (B := 1000000000) (by omega) (by omega) (by omega) (by omega)
  obtain ⟨x0, x1⟩ := mul_bd (a := b2) (b := o2) (A := 1000000000) (B := 1000000000) (by omega) (by omega) (by omega) (by omega)
  obtain ⟨y0, y1⟩ := mul_bd (a := -f) (b := o2) (A := 9000) (B := 1000000000) (by omega) (by omega) (by omega) (by omega)
  have HPS : Hid (∃ ps : List (Int × Int), ps = balL (b1, b2) (o1, o2) (a1, a2) k up f ∧ ps = [((k + up) * o1, b2 * a2), (-k * b1, o2 * a2), (-up * a1, b2 * o2), (-f * o2, b2 * a2)]) := Lib.hid ⟨_, rfl, rfl⟩
  obtain ⟨m1, hm1⟩ : ∃ m, (k + up) * o1 = m := ⟨_, rfl⟩
  obtain ⟨m2, hm2⟩ : ∃ m, b2 * a2 = m := ⟨_, rfl⟩
  obtain ⟨m3, hm3⟩ : ∃ m, -k * b1 = m := ⟨_, rfl⟩
  obtain ⟨m4, hm4⟩ : ∃ m, o2 * a2 = m := ⟨_, rfl⟩
  obtain ⟨m5, hm5⟩ : ∃ m, -up * a1 = m := ⟨_, rfl⟩
  obtain ⟨m6, hm6⟩ : ∃ m, b2 * o2 = m := ⟨_, rfl⟩
  obtain ⟨m7, hm7⟩ : ∃ m, -f * o2 = m := ⟨_, rfl⟩
  rw [hm1] at p0 p1 HPS
  rw [hm2] at q0 q1 HPS
  rw [hm3] at r0 r1 HPS
  rw [hm4] at s0 s1 HPS
  rw [hm5] at t0 t1 HPS
  rw [hm6] at x0 x1 HPS
  rw [hm7] at y0 y1 HPS
  obtain ⟨e1, e1'⟩ := mul_bd (a := m1) (b := m2) (A := 40000000000) (B := 1000000000000000000) (by omega) (by omega) (by omega) (by omega)
  obtain ⟨e2, e2'⟩ := mul_bd (a := m3) (b := m4) (A := 40000000000) (B := 1000000000000000000) (by omega) (by omega) (by omega) (by omega)
  obtain ⟨e3, e3'⟩ := mul_bd (a := m5) (b := m6) (A := 40000000000) (B := 1000000000000000000) (by omega) (by omega) (by omega) (by omega)
  obtain ⟨e4, e4'⟩ := mul_bd (a := m7) (b := m2) (A := 9000000000000) (B := 1000000000000000000) (by omega) (by omega) (by omega) (by omega)
  have HZ : Hid (∀ W, Reads W (some ⟨w.heap.size + 3, 0, none⟩) 8 (fracs [(m1, m2), (m3, m4), (m5, m6), (m7, m2)]) → Calls Try.prog 129 #[.slice (some ⟨w.heap.size + 3, 0, none⟩) 4 4] W fun e w' => e = .returned (.bool (decide (balS (b1, b2) (o1, o2) (a1, a2) k up f = 0))) ∧ Below W.heap.size W w') := Lib.hid (fun W hr => by
    obtain ⟨ps, hp1, hp2⟩ := HPS.out
    have hs : prodTo ps 4 = balS (b1, b2) (o1, o2) (a1, a2) k up f := by rw [hp1]; exact HSUM.out
    have hs2 : prodTo ps 4 = m1 * m2 + m3 * m4 + m5 * m6 + m7 * m2 := by rw [hp2]; simp only [prodTo, fg, List.getD_cons_zero, List.getD_cons_succ, Int.zero_add]
    have := isZero_any ps (some ⟨w.heap.size + 3, 0, none⟩) 4 W (by rw [hp2]; simp) (fun j hj => by
      rw [hp2] at hj ⊢
      simp only [List.length_cons, List.length_nil] at hj
      rcases (by omega : j = 0 ∨ j = 1 ∨ j = 2 ∨ j = 3) with rfl | rfl | rfl | rfl <;> simp only [fg, List.getD_cons_zero, List.getD_cons_succ] <;> omega)
      (by rw [show ps.length = 4 by rw [hp2]; rfl, hs2]; omega) (by rw [show ps.length = 4 by rw [hp2]; rfl, hp2]; exact hr)
    rw [show ps.length = 4 by rw [hp2]; rfl, hs] at this
    exact this)
  clear HPS HSUM e1 e1' e2 e2' e3 e3' e4 e4'
  obtain ⟨ok, hok⟩ : ∃ ok, decide (balS (b1, b2) (o1, o2) (a1, a2) k up f = 0) = ok := ⟨_, rfl⟩
  rw [hok] at HZ ⊢
  clear hok
  go_enter Try.func108, Try.ntmps108
  go_wp2_with fail
  refine (HZ.out _ (Reads.fresh _ _ _ _ _ 8 (by simp) (fun i hi => ?_))).mono ?_
  · match i, hi with
    | 0, _ => rfl
    | 1, _ => rfl
    | 2, _ => rfl
    | 3, _ => rfl
    | 4, _ => rfl
    | 5, _ => rfl
    | 6, _ => rfl
    | 7, _ => rfl
  rintro e w' ⟨rfl, hb⟩
  have HB := Lib.hid (bThen (bAlloc (bAlloc (bAlloc (bAlloc (bSelf w) _) _) _) _) hb)
  clear hb
  go_wp2_with fail
  go_ret
  exact ⟨rfl, HB.out⟩

end Go.Proofs.Ytjieojkfpoiabaa

