/-
  Texts of this claim, in their build order: W12.
-/
import Derived.Test.YtjfedpblkejmkaaGreatBot10

namespace Go.Proofs.YtjfedpblkejmkaaGreat
section
open Go.RowKit

theorem val_drop {l : List Int} {k : Nat} (hk : k < l.length) : val (l.drop k) = gi l k + 1000000000 * val (l.drop (k + 1)) := by
  rw [List.drop_eq_getElem_cons hk, gi_lt hk]; rfl
theorem drop_set (l : List Int) (k : Nat) (v : Int) (hk : k < l.length) : val ((l.set k v).drop k) = v + 1000000000 * val (l.drop (k + 1)) := by
  have hk' : k < (l.set k v).length := by simpa using hk
  rw [val_drop hk', gi_set, if_pos ⟨rfl, hk⟩]
  have e : (l.set k v).drop (k + 1) = l.drop (k + 1) := by
    apply gi_ext
    · simp
    · intro i _
      rw [gi_drop_at, gi_drop_at, gi_set, if_neg (by omega)]
  rw [e]
/-- One digit of a quotient. -/
theorem floor_step {A qs : List Int} {k : Nat} {N L d : Int} (hA : k < A.length) (hq : k < qs.length) (h : val (A.drop (k + 1)) = val (qs.drop (k + 1)) * N + L) :
    val (A.drop k) = val ((qs.set k d).drop k) * N + (gi A k + 1000000000 * L - N * d) := by
  rw [val_drop hA, drop_set qs k d hq, h, Int.mul_add, Int.add_mul, Int.mul_assoc, Int.mul_comm N d]
  omega
theorem floor_pos {q N L : Int} (h0 : 0 ≤ L) (h1 : L < N) : (q * N + L) / N = q := by
  rw [Int.add_comm, Int.add_mul_ediv_right _ _ (by omega), Int.ediv_eq_zero_of_lt h0 h1]; omega
theorem floor_neg0 {q N : Int} (hN : 0 < N) : (-(q * N)) / N = -q := by
  rw [← Int.neg_mul, Int.mul_ediv_cancel _ (by omega)]
theorem floor_neg {q N L : Int} (h0 : 0 < L) (h1 : L < N) : (-(q * N + L)) / N = -q - 1 := by
  have e : -(q * N + L) = (-q - 1) * N + (N - L) := by rw [Int.sub_mul, Int.neg_mul]; omega
  rw [e]
  exact floor_pos (by omega) (by omega)
/-- What the search for a digit keeps. -/
structure Srch (N L lo hi : Int) : Prop where
  l0 : 0 ≤ lo
  lh : lo ≤ hi
  hb : hi ≤ 999999999
  low : N * lo ≤ L
  high : L < N * (hi + 1)
theorem Srch.start {N L x R : Int} (x0 : 0 ≤ x) (x1 : x < 1000000000) (r0 : 0 ≤ R) (r1 : R < N) (hL : L = x + 1000000000 * R) : Srch N L 0 999999999 := by
  refine ⟨by omega, by omega, by omega, by rw [Int.mul_zero]; omega, ?_⟩
  have : N * (999999999 + 1) = 1000000000 * N := Int.mul_comm _ _
  omega
theorem Srch.up {N L lo hi m : Int} (h : Srch N L lo hi) (h1 : lo < m) (h2 : m ≤ hi) (hm : N * m ≤ L) : Srch N L m hi :=
  ⟨by have := h.l0; omega, h2, h.hb, hm, h.high⟩
theorem Srch.down {N L lo hi m : Int} (h : Srch N L lo hi) (h1 : lo < m) (hm : L < N * m) (h2 : m ≤ hi) : Srch N L lo (m - 1) :=
  ⟨h.l0, by omega, by have := h.hb; omega, h.low, by rw [Int.sub_add_cancel]; exact hm⟩
theorem Srch.fin {N L lo hi : Int} (h : Srch N L lo hi) (he : hi ≤ lo) : 0 ≤ L - N * lo ∧ L - N * lo < N := by
  have e : hi = lo := by have := h.lh; omega
  have h1 := h.high
  have h2 := h.low
  rw [e, Int.mul_add, Int.mul_one] at h1
  omega

/-- What the loops of WideFloor keep. -/
theorem digs_cons (x : Int) (L : Nat) (h0 : 0 ≤ x) (h1 : x < 1000000000) : digs (val (x :: digs L)).toNat = digs (x.toNat + 1000000000 * L) := by
  congr 1
  have : val (x :: digs L) = x + 1000000000 * val (digs L) := rfl
  rw [this, val_digs]
  omega
end
end Go.Proofs.YtjfedpblkejmkaaGreat
