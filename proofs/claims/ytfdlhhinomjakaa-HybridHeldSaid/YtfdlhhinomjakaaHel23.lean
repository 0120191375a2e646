/-
  Texts of this claim, in their build order: W1 P1 V2.
-/
import Derived.Test.YtfdlhhinomjakaaHel1
import Derived.Test.YtfdlhhinomjakaaHel22
import Derived.Test.YtfdlhhinomjakaaHel21
import Derived.Shelf.Bits.Mul64
import Derived.Shelf.Spec.BitsCarry
import Derived.Test.YtfdlhhinomjakaaHel12

namespace Go.Proofs.Ytfdlhhinomjakaa
section
open Go.RowKit

/-- Digits. -/
def Dig (l : List Int) : Prop := ∀ d ∈ l, 0 ≤ d ∧ d < 1000000000
theorem Dig.nil : Dig [] := fun d h => by cases h
theorem Dig.cons {d : Int} {l : List Int} (h1 : 0 ≤ d) (h2 : d < 1000000000) (h : Dig l) : Dig (d :: l) := fun e he => by
  rcases List.mem_cons.1 he with rfl | he
  · exact ⟨h1, h2⟩
  · exact h e he
theorem Dig.tail {d : Int} {l : List Int} (h : Dig (d :: l)) : Dig l := fun e he => h e (List.mem_cons_of_mem _ he)
theorem Dig.at {l : List Int} (h : Dig l) (k : Nat) : 0 ≤ gi l k ∧ gi l k < 1000000000 := by
  by_cases hk : k < l.length
  · rw [gi_lt hk]; exact h _ (List.getElem_mem hk)
  · have : gi l k = 0 := by
      unfold gi
      rw [List.getD_eq_getElem?_getD, List.getElem?_eq_none (by omega)]
      rfl
    omega
theorem Dig.take {l : List Int} (h : Dig l) (n : Nat) : Dig (l.take n) := fun d hd => h d (List.mem_of_mem_take hd)
theorem Dig.append {l m : List Int} (h : Dig l) (h' : Dig m) : Dig (l ++ m) := fun d hd => by
  rcases List.mem_append.1 hd with hd | hd
  · exact h d hd
  · exact h' d hd
/-- The digits of a number. -/
def digs (n : Nat) : List Int := if h : n = 0 then [] else ((n % 1000000000 : Nat) : Int) :: digs (n / 1000000000)
termination_by n
decreasing_by exact Nat.div_lt_self (by omega) (by decide)
theorem digs_zero : digs 0 = [] := by rw [digs]; simp
/-- No zero at the end. -/
def NoZ (l : List Int) : Prop := l = [] ∨ gi l (l.length - 1) ≠ 0
theorem NoZ.tail {d : Int} {l : List Int} (h : NoZ (d :: l)) : NoZ l := by
  rcases l with _ | ⟨e, l⟩
  · exact .inl rfl
  · refine .inr ?_
    rcases h with h | h
    · cases h
    · exact h
/-- A number as the program holds it: its sign, its digits. -/
def dg (z : Int) : List Int := digs z.natAbs
def RW (W : World) (a : Option Addr) (v : Value) (z : Int) : Prop :=
  ∃ cap, v = .agg #[.int .i64 z.sign, .slice a (dg z).length cap] ∧ (dg z).length ≤ cap ∧ Reads W a (dg z).length (ints (dg z))
theorem RW.to {W W' : World} {a : Option Addr} {v : Value} {z : Int} (h : RW W a v z) (hb : Below W.heap.size W W') : RW W' a v z := by
  obtain ⟨cap, h1, h2, h3⟩ := h
  exact ⟨cap, h1, h2, h3.to hb⟩
/-- Where the digits of a number lie, if it has any. -/
def Loc (P : Nat → Prop) (a : Option Addr) (z : Int) : Prop := dg z ≠ [] → ∀ p, a = some p → P p.block
end
section
open Go.RowKit

theorem fr_ex {n m : Int} (hm : 0 < m) : ∃ g a b : Int, 0 < g ∧ 0 < b ∧ n = g * a ∧ m = g * b ∧ fr n m = (a, b) ∧ g = (Int.gcd n m : Nat) := by
  have h0 : 0 < Int.gcd n m := Nat.pos_of_ne_zero (fun h => by have := (Int.gcd_eq_zero_iff.1 h).2; omega)
  obtain ⟨a, ha⟩ : ((Int.gcd n m : Nat) : Int) ∣ n := Int.gcd_dvd_left ..
  obtain ⟨b, hb⟩ : ((Int.gcd n m : Nat) : Int) ∣ m := Int.gcd_dvd_right ..
  have hg : (0 : Int) < (Int.gcd n m : Nat) := by omega
  have h1 : n.tdiv ((Int.gcd n m : Nat) : Int) = a := by
    conv => lhs; arg 1; rw [ha]
    exact Int.mul_tdiv_cancel_left _ (by omega)
  have h2 : m.tdiv ((Int.gcd n m : Nat) : Int) = b := by
    conv => lhs; arg 1; rw [hb]
    exact Int.mul_tdiv_cancel_left _ (by omega)
  have hp := fr_pos (n := n) hm
  have e : fr n m = (a, b) := by unfold fr; rw [h1, h2]
  rw [e] at hp
  exact ⟨_, a, b, hg, hp, ha, hb, e, rfl⟩
theorem fr_mul {n m : Int} (hm : 0 < m) : (fr n m).1 * m = n * (fr n m).2 := by
  obtain ⟨g, a, b, -, -, h1, h2, h3, -⟩ := fr_ex (n := n) hm
  rw [h3]; subst h1 h2; grind
/-- The force of a spring, and the sums over a common multiple of the stiffnesses. -/
def sprF (fs : List Int) (k : Nat) : Int := gi fs k + upTo fs (k + 1) (fs.length - (k + 1))
def refN (ks fs : List Int) (L : Int) : Nat → Int
  | 0 => 0
  | k + 1 => refN ks fs L k + sprF fs k * L.tdiv (gi ks k)
/-- Fractions as the reference holds them. -/
def rAdd (p q : Int × Int) : Int × Int := fr (p.1 * q.2 + q.1 * p.2) (p.2 * q.2)
structure Fq (p : Int × Int) (N D : Int) : Prop where
  d0 : 0 < p.2
  D0 : 0 < D
  eq : p.1 * D = N * p.2
theorem Fq.add {p q : Int × Int} {N D M E : Int} (h : Fq p N D) (h' : Fq q M E) : Fq (rAdd p q) (N * E + M * D) (D * E) := by
  obtain ⟨a0, a1, a2⟩ := h
  obtain ⟨b0, b1, b2⟩ := h'
  have hpq := Int.mul_pos a0 b0
  refine ⟨fr_pos hpq, Int.mul_pos a1 b1, ?_⟩
  have hm := fr_mul (n := p.1 * q.2 + q.1 * p.2) hpq
  unfold rAdd
  generalize fr (p.1 * q.2 + q.1 * p.2) (p.2 * q.2) = s at *
  refine Int.eq_of_mul_eq_mul_left (a := p.2 * q.2) (by omega) ?_
  grind
theorem Fq.cmp {p q : Int × Int} {N D M E : Int} (h : Fq p N D) (h' : Fq q M E) : (p.1 * q.2 = q.1 * p.2) ↔ (N * E = M * D) := by
  obtain ⟨a0, a1, a2⟩ := h
  obtain ⟨b0, b1, b2⟩ := h'
  constructor
  · intro h
    refine Int.eq_of_mul_eq_mul_left (a := p.2 * q.2) (by have := Int.mul_pos a0 b0; omega) ?_
    grind
  · intro h
    refine Int.eq_of_mul_eq_mul_left (a := D * E) (by have := Int.mul_pos a1 b1; omega) ?_
    grind
end
section
open Go.RowKit

/-- A fraction with small parts. -/
structure SmF (p : Int × Int) : Prop where
  n0 : -1000000000 ≤ p.1
  n1 : p.1 ≤ 1000000000
  d0 : 1 ≤ p.2
  d1 : p.2 ≤ 1000000000
end
end Go.Proofs.Ytfdlhhinomjakaa
