/-
  Texts of this claim, in their build order: OP1 W6 W8 W10 W12 W14 Y1 Y2 Y3 Y6.
-/
import Derived.Test.YtjfedpblkejmkaaGreatEve6
import Derived.Test.YtjfedpblkejmkaaGreatEve8
import Derived.Test.YtjfedpblkejmkaaGreatEve3
import Derived.Test.YtjfedpblkejmkaaGreatEve7
import Derived.Lib.AppendZerosOnto

/-
  Plain laws of the pressure of a plant: the line through its points.
-/
namespace Go.Proofs.YtjfedpblkejmkaaGreat
open Go.RowKit

/-- The first index from k on, of m, at which it is so (k + m if nowhere). -/
def ixF (p : Nat → Bool) : Nat → Nat → Nat
  | k, 0 => k
  | k, m + 1 => if p k then k else ixF p (k + 1) m
theorem ixF_no (p : Nat → Bool) : ∀ m k j, k ≤ j → j < ixF p k m → p j = false
  | 0, k, j, h1, h2 => by unfold ixF at h2; omega
  | m + 1, k, j, h1, h2 => by
    unfold ixF at h2
    by_cases hp : p k = true
    · rw [if_pos hp] at h2; omega
    · rw [if_neg hp] at h2
      by_cases e : j = k
      · subst e; simpa using hp
      · exact ixF_no p m (k + 1) j (by omega) h2
theorem ixF_yes (p : Nat → Bool) : ∀ m k, ixF p k m < k + m → p (ixF p k m) = true
  | 0, k, h => by unfold ixF at h; omega
  | m + 1, k, h => by
    unfold ixF at h ⊢
    by_cases hp : p k = true
    · rw [if_pos hp]; exact hp
    · rw [if_neg hp] at h ⊢
      exact ixF_yes p m (k + 1) (by omega)
theorem ixF_step {p : Nat → Bool} {k n : Nat} (h : k < n) (h0 : p k = false) : ixF p k (n - k) = ixF p (k + 1) (n - (k + 1)) := by
  obtain ⟨m, hm⟩ : ∃ m, n - k = m + 1 := ⟨n - k - 1, by omega⟩
  rw [hm, ixF, if_neg (by rw [h0]; exact Bool.false_ne_true), show n - (k + 1) = m by omega]
theorem ixF_stop {p : Nat → Bool} {k n : Nat} (h : k < n) (h0 : p k = true) : ixF p k (n - k) = k := by
  obtain ⟨m, hm⟩ : ∃ m, n - k = m + 1 := ⟨n - k - 1, by omega⟩
  rw [hm, ixF, if_pos h0]

/-- Points of a line that rises: at most 8, the first at 0. -/
structure PtsOk (l : List (Int × Int)) : Prop where
  two : 2 ≤ l.length
  few : l.length ≤ 8
  v0 : (fg l 0).1 = 0
  vol : ∀ k, k < l.length → 0 ≤ (fg l k).1 ∧ (fg l k).1 ≤ 200
  prs : ∀ k, k < l.length → 0 ≤ (fg l k).2 ∧ (fg l k).2 ≤ 1000
  up : ∀ k, k + 1 < l.length → (fg l k).1 < (fg l (k + 1)).1 ∧ (fg l k).2 < (fg l (k + 1)).2
def capV (l : List (Int × Int)) : Int := (fg l (l.length - 1)).1
/-- The first point at or beyond a number. -/
def ptI (l : List (Int × Int)) (v : Int) : Nat := ixF (fun j => decide (v ≤ (fg l j).1)) 0 l.length
/-- The value between two points. -/
def segQ (a b : Int × Int) (v : Int) : Int × Int := (a.2 * (b.1 - a.1) + (b.2 - a.2) * (v - a.1), b.1 - a.1)
/-- The program's value of the line: a quotient. -/
def prQ (l : List (Int × Int)) (v : Int) : Int × Int := if (fg l (ptI l v)).1 = v then ((fg l (ptI l v)).2, 1) else segQ (fg l (ptI l v - 1)) (fg l (ptI l v)) v
theorem PtsOk.mono {l : List (Int × Int)} (h : PtsOk l) {i : Nat} : ∀ {d : Nat}, i + d < l.length → (fg l i).1 + d ≤ (fg l (i + d)).1 ∧ (fg l i).2 + d ≤ (fg l (i + d)).2
  | 0, _ => by simp
  | d + 1, hd => by
    have h1 := h.mono (i := i) (d := d) (by omega)
    have h2 := h.up (i + d) (by omega)
    rw [show i + (d + 1) = i + d + 1 by omega]
    omega
theorem PtsOk.leP {l : List (Int × Int)} (h : PtsOk l) {i j : Nat} (hij : i ≤ j) (hj : j < l.length) : (fg l i).2 ≤ (fg l j).2 := by
  obtain ⟨d, rfl⟩ := Nat.exists_eq_add_of_le hij
  have := (h.mono (i := i) (d := d) hj).2; omega
theorem ptI_lt {l : List (Int × Int)} {v : Int} (h : PtsOk l) (hv : v ≤ capV l) : ptI l v < l.length := by
  rcases Nat.lt_or_ge (ptI l v) l.length with h1 | h1
  · exact h1
  · have h2 := ixF_no (fun j => decide (v ≤ (fg l j).1)) l.length 0 (l.length - 1) (Nat.zero_le _) (by have := h.two; unfold ptI at h1; omega)
    have h3 : ¬ v ≤ (fg l (l.length - 1)).1 := of_decide_eq_false h2
    unfold capV at hv
    omega
theorem ptI_ge {l : List (Int × Int)} {v : Int} (h : PtsOk l) (hv : v ≤ capV l) : v ≤ (fg l (ptI l v)).1 := by
  have := ixF_yes (fun j => decide (v ≤ (fg l j).1)) l.length 0 (by have := ptI_lt h hv; unfold ptI at this; omega)
  exact of_decide_eq_true this
theorem ptI_gt {l : List (Int × Int)} {v : Int} {j : Nat} (hj : j < ptI l v) : (fg l j).1 < v := by
  have := ixF_no (fun j => decide (v ≤ (fg l j).1)) l.length 0 j (Nat.zero_le _) hj
  have : ¬ v ≤ (fg l j).1 := of_decide_eq_false this
  omega
theorem ptI_pos {l : List (Int × Int)} {v : Int} (h : PtsOk l) (h0 : 0 < v) (hv : v ≤ capV l) : 0 < ptI l v := by
  rcases Nat.eq_zero_or_pos (ptI l v) with e | e
  · have := ptI_ge h hv
    rw [e, h.v0] at this; omega
  · exact e
theorem ptI_zero {l : List (Int × Int)} (h : PtsOk l) : ptI l 0 = 0 := by
  unfold ptI
  obtain ⟨m, hm⟩ : ∃ m, l.length = m + 1 := ⟨l.length - 1, by have := h.two; omega⟩
  rw [hm, ixF, if_pos]
  rw [h.v0]; rfl
/-- What a number above 0 lies between. -/
theorem seg_bd {a b : Int × Int} {v : Int} (h1 : a.1 < v) (h2 : v ≤ b.1) (h3 : a.2 < b.2) : 0 < (segQ a b v).2 ∧ a.2 * (segQ a b v).2 < (segQ a b v).1 ∧ (segQ a b v).1 ≤ b.2 * (segQ a b v).2 := by
  unfold segQ
  dsimp only
  have p1 : 0 < (b.2 - a.2) * (v - a.1) := Int.mul_pos (by omega) (by omega)
  have p2 : 0 ≤ (b.2 - a.2) * (b.1 - v) := Int.mul_nonneg (by omega) (by omega)
  have e : b.2 * (b.1 - a.1) - (a.2 * (b.1 - a.1) + (b.2 - a.2) * (v - a.1)) = (b.2 - a.2) * (b.1 - v) := by grind
  exact ⟨by omega, by omega, by omega⟩
/-- The value is that of a quotient with these parts. -/
theorem prQ_seg {l : List (Int × Int)} {v : Int} (_h : PtsOk l) (h0 : 0 < v) (hv : v ≤ capV l) :
    (prQ l v).1 * (segQ (fg l (ptI l v - 1)) (fg l (ptI l v)) v).2 = (segQ (fg l (ptI l v - 1)) (fg l (ptI l v)) v).1 * (prQ l v).2 := by
  unfold prQ
  split
  · rename_i e
    unfold segQ
    dsimp only
    generalize fg l (ptI l v - 1) = a at *
    generalize fg l (ptI l v) = b at *
    subst e
    grind
  · rfl
theorem prQ_zero {l : List (Int × Int)} (h : PtsOk l) : prQ l 0 = ((fg l 0).2, 1) := by
  unfold prQ
  rw [ptI_zero h, if_pos h.v0]
theorem prQ_den {l : List (Int × Int)} {v : Int} (h : PtsOk l) (h0 : 0 ≤ v) (hv : v ≤ capV l) : 1 ≤ (prQ l v).2 ∧ (prQ l v).2 ≤ 200 ∧ 0 ≤ (prQ l v).1 ∧ (prQ l v).1 ≤ 1000 * (prQ l v).2 := by
  have hi := ptI_lt h hv
  have hp := h.prs _ hi
  unfold prQ
  split
  · dsimp only; omega
  · rename_i e
    have hpos : 0 < ptI l v := by
      rcases Nat.eq_zero_or_pos (ptI l v) with e2 | e2
      · have := ptI_ge h hv
        rw [e2, h.v0] at this
        have : v = 0 := by omega
        subst this
        rw [ptI_zero h] at e
        exact absurd h.v0 e
      · exact e2
    have h1 := ptI_gt (l := l) (v := v) (j := ptI l v - 1) (by omega)
    have h2 := ptI_ge h hv
    have h3 := h.up (ptI l v - 1) (by omega)
    rw [show ptI l v - 1 + 1 = ptI l v by omega] at h3
    obtain ⟨b1, b2, b3⟩ := seg_bd h1 h2 h3.2
    have hv1 := h.vol _ hi
    have hv2 := h.vol (ptI l v - 1) (by omega)
    have hp2 := h.prs (ptI l v - 1) (by omega)
    have hd : (segQ (fg l (ptI l v - 1)) (fg l (ptI l v)) v).2 = (fg l (ptI l v)).1 - (fg l (ptI l v - 1)).1 := rfl
    generalize segQ (fg l (ptI l v - 1)) (fg l (ptI l v)) v = s at *
    have q1 : 0 ≤ (fg l (ptI l v - 1)).2 * s.2 := Int.mul_nonneg hp2.1 (by omega)
    have q2 : (fg l (ptI l v)).2 * s.2 ≤ 1000 * s.2 := Int.mul_le_mul_of_nonneg_right hp.2 (by omega)
    omega
/-- A greater number has a greater value. -/
theorem prQ_up {l : List (Int × Int)} {v u : Int} (h : PtsOk l) (h0 : 0 ≤ v) (hvu : v < u) (hu : u ≤ capV l) : (prQ l v).1 * (prQ l u).2 < (prQ l u).1 * (prQ l v).2 := by
  have dv := (prQ_den h h0 (by omega : v ≤ capV l)).1
  have du := (prQ_den h (by omega) hu).1
  have su := prQ_seg h (by omega : 0 < u) hu
  have iu := ptI_lt h hu
  have pu := ptI_pos h (by omega) hu
  have gu := ptI_gt (l := l) (v := u) (j := ptI l u - 1) (by omega)
  have hu2 := ptI_ge h hu
  have upu := h.up (ptI l u - 1) (by omega)
  rw [show ptI l u - 1 + 1 = ptI l u by omega] at upu
  obtain ⟨b1, b2, b3⟩ := seg_bd gu hu2 upu.2
  -- the value at u is above that of the point before it
  have key : (fg l (ptI l u - 1)).2 * (prQ l u).2 < (prQ l u).1 := by
    generalize segQ (fg l (ptI l u - 1)) (fg l (ptI l u)) u = s at *
    generalize prQ l u = q at *
    generalize (fg l (ptI l u - 1)).2 = y at *
    have e1 : y * s.2 * q.2 < s.1 * q.2 := Int.mul_lt_mul_of_pos_right b2 (by omega)
    rw [← su] at e1
    have e2 : y * s.2 * q.2 = y * q.2 * s.2 := by grind
    rw [e2] at e1
    exact Int.lt_of_mul_lt_mul_right e1 (by omega)
  by_cases hv0 : v = 0
  · subst hv0
    rw [prQ_zero h]
    dsimp only
    have := h.leP (i := 0) (j := ptI l u - 1) (Nat.zero_le _) (by omega)
    have := Int.mul_le_mul_of_nonneg_right this (show 0 ≤ (prQ l u).2 by omega)
    omega
  · have sv := prQ_seg h (by omega : 0 < v) (by omega : v ≤ capV l)
    have iv := ptI_lt h (by omega : v ≤ capV l)
    have pv := ptI_pos h (by omega) (by omega : v ≤ capV l)
    have gv := ptI_gt (l := l) (v := v) (j := ptI l v - 1) (by omega)
    have hv2 := ptI_ge h (by omega : v ≤ capV l)
    have upv := h.up (ptI l v - 1) (by omega)
    rw [show ptI l v - 1 + 1 = ptI l v by omega] at upv
    obtain ⟨c1, c2, c3⟩ := seg_bd gv hv2 upv.2
    by_cases hij : ptI l v = ptI l u
    · rw [hij] at sv c1 gv hv2 upv
      have hlt : (segQ (fg l (ptI l u - 1)) (fg l (ptI l u)) v).1 < (segQ (fg l (ptI l u - 1)) (fg l (ptI l u)) u).1 := by
        unfold segQ
        dsimp only
        have p1 : 0 < ((fg l (ptI l u)).2 - (fg l (ptI l u - 1)).2) * (u - v) := Int.mul_pos (by omega) (by omega)
        generalize fg l (ptI l u) = b at *
        generalize fg l (ptI l u - 1) = a at *
        have e : (b.2 - a.2) * (u - a.1) - (b.2 - a.2) * (v - a.1) = (b.2 - a.2) * (u - v) := by grind
        omega
      have hd : (segQ (fg l (ptI l u - 1)) (fg l (ptI l u)) v).2 = (segQ (fg l (ptI l u - 1)) (fg l (ptI l u)) u).2 := rfl
      generalize segQ (fg l (ptI l u - 1)) (fg l (ptI l u)) v = s at *
      generalize segQ (fg l (ptI l u - 1)) (fg l (ptI l u)) u = t at *
      generalize prQ l u = q at *
      generalize prQ l v = p at *
      -- p = s/t.2, q = t.1/t.2
      rw [hd] at sv
      have e1 : s.1 * (p.2 * q.2) < t.1 * (p.2 * q.2) := Int.mul_lt_mul_of_pos_right hlt (Int.mul_pos (by omega) (by omega))
      have e2 : s.1 * (p.2 * q.2) = p.1 * q.2 * t.2 := by rw [← Int.mul_assoc, ← sv]; grind
      have e3 : t.1 * (p.2 * q.2) = q.1 * p.2 * t.2 := by rw [Int.mul_comm p.2, ← Int.mul_assoc, ← su]; grind
      rw [e2, e3] at e1
      exact Int.lt_of_mul_lt_mul_right e1 (by omega)
    · have hlt : ptI l v < ptI l u := by
        rcases Nat.lt_or_ge (ptI l v) (ptI l u) with h1 | h1
        · exact h1
        · have := ptI_gt (l := l) (v := v) (j := ptI l u) (by omega)
          omega
      have hle := h.leP (i := ptI l v) (j := ptI l u - 1) (by omega) (by omega)
      -- the value at v is at most that of its point
      have key2 : (prQ l v).1 ≤ (fg l (ptI l v)).2 * (prQ l v).2 := by
        generalize segQ (fg l (ptI l v - 1)) (fg l (ptI l v)) v = s at *
        generalize prQ l v = q at *
        generalize (fg l (ptI l v)).2 = y at *
        have e1 : s.1 * q.2 ≤ y * s.2 * q.2 := Int.mul_le_mul_of_nonneg_right c3 (by omega)
        rw [← sv] at e1
        have e2 : y * s.2 * q.2 = y * q.2 * s.2 := by grind
        rw [e2] at e1
        exact Int.le_of_mul_le_mul_right e1 (by omega)
      generalize prQ l u = q at *
      generalize prQ l v = p at *
      generalize (fg l (ptI l v)).2 = y at *
      generalize (fg l (ptI l u - 1)).2 = z at *
      have e1 : p.1 * q.2 ≤ y * p.2 * q.2 := Int.mul_le_mul_of_nonneg_right key2 (by omega)
      have e2 : y * (p.2 * q.2) ≤ z * (p.2 * q.2) := Int.mul_le_mul_of_nonneg_right hle (Int.mul_nonneg (by omega) (by omega))
      have e3 : z * q.2 * p.2 < q.1 * p.2 := Int.mul_lt_mul_of_pos_right key (by omega)
      have e4 : y * p.2 * q.2 = y * (p.2 * q.2) := by grind
      have e5 : z * q.2 * p.2 = z * (p.2 * q.2) := by grind
      omega

/-- The reference's value of the line. -/
def rSeg (a b : Int × Int) (v : Int) : Int × Int := rAdd (a.2, 1) (fr ((b.2 - a.2) * (v - a.1)) (b.1 - a.1))
def rPrI (l : List (Int × Int)) (v : Int) : Nat := ixF (fun j => decide (v ≤ (fg l j).1)) 1 (l.length - 1)
def rPr (l : List (Int × Int)) (v : Int) : Int × Int := if rPrI l v < l.length then rSeg (fg l (rPrI l v - 1)) (fg l (rPrI l v)) v else (0, 1)
theorem rSeg_eq {a b : Int × Int} (v : Int) (h : a.1 < b.1) : rSeg a b v = fr (segQ a b v).1 (segQ a b v).2 := by
  unfold rSeg rAdd segQ
  dsimp only
  have hD : 0 < b.1 - a.1 := by omega
  have h1 := fr_mul (n := (b.2 - a.2) * (v - a.1)) hD
  have h2 := fr_pos (n := (b.2 - a.2) * (v - a.1)) hD
  generalize fr ((b.2 - a.2) * (v - a.1)) (b.1 - a.1) = f at *
  refine fr_eq (by omega) hD ?_
  generalize b.1 - a.1 = D at *
  generalize (b.2 - a.2) * (v - a.1) = M at *
  grind
theorem rPr_eq {l : List (Int × Int)} {v : Int} (h : PtsOk l) (h0 : 0 ≤ v) (hv : v ≤ capV l) : rPr l v = fr (prQ l v).1 (prQ l v).2 := by
  have h2 := h.two
  by_cases hv0 : v = 0
  · subst hv0
    rw [prQ_zero h]
    have hi : rPrI l 0 = 1 := by
      unfold rPrI
      obtain ⟨m, hm⟩ : ∃ m, l.length - 1 = m + 1 := ⟨l.length - 2, by omega⟩
      rw [hm, ixF, if_pos]
      exact decide_eq_true (h.vol 1 (by omega)).1
    have hu := h.up 0 (by omega)
    unfold rPr
    rw [hi, if_pos (by omega), rSeg_eq _ (by exact hu.1)]
    show fr (segQ (fg l 0) (fg l 1) 0).1 (segQ (fg l 0) (fg l 1) 0).2 = _
    unfold segQ
    dsimp only
    rw [h.v0]
    have := hu.1
    rw [h.v0] at this
    refine fr_eq (by simp only [Nat.zero_add] at this; omega) (by decide) ?_
    grind
  · have hi : rPrI l v = ptI l v := by
      unfold rPrI ptI
      have := ixF_step (p := fun j => decide (v ≤ (fg l j).1)) (k := 0) (n := l.length) (by omega) (decide_eq_false (by rw [h.v0]; omega))
      rw [Nat.sub_zero] at this
      rw [this]
    have iv := ptI_lt h hv
    have pv := ptI_pos h (by omega) hv
    have gv := ptI_gt (l := l) (v := v) (j := ptI l v - 1) (by omega)
    have hv2 := ptI_ge h hv
    unfold rPr
    rw [hi, if_pos iv, rSeg_eq _ (by omega)]
    have hd := (prQ_den h h0 hv).1
    refine fr_eq (by show 0 < (fg l (ptI l v)).1 - (fg l (ptI l v - 1)).1; omega) (by omega) ?_
    have := prQ_seg h (by omega) hv
    rw [this]

end Go.Proofs.YtjfedpblkejmkaaGreat

/-
  Contracts of numbers of any size: addDigits.
-/
namespace Go.Proofs.YtjfedpblkejmkaaGreat
open Go.RowKit

/-- A list of digits in new memory. -/
def DPost (P : List Int → Prop) (w : World) (e : Ending) (w' : World) : Prop :=
  ∃ (out : List Int) (a' : Option Addr) (cap' : Nat), e = .returned (.slice a' out.length cap') ∧ P out ∧ out.length ≤ cap' ∧ Reads w' a' out.length (ints out) ∧ Below w.heap.size w w' ∧ ∀ p, a' = some p → w.heap.size ≤ p.block

end Go.Proofs.YtjfedpblkejmkaaGreat

/-
  Contracts of numbers of any size: WideAdd.
-/
namespace Go.Proofs.YtjfedpblkejmkaaGreat
open Go.RowKit

theorem DPost.mono {P Q : List Int → Prop} (h : ∀ out, P out → Q out) {w : World} {e : Ending} {w' : World} (hp : DPost P w e w') : DPost Q w e w' := by
  obtain ⟨out, a, cap, h1, h2, h3⟩ := hp
  exact ⟨out, a, cap, h1, h _ h2, h3⟩
end Go.Proofs.YtjfedpblkejmkaaGreat

/-
  Numbers of any size: products, the plain law and what the memory holds.
-/
namespace Go.Proofs.YtjfedpblkejmkaaGreat
open Go.RowKit

theorem gi_set (l : List Int) (i j : Nat) (v : Int) : gi (l.set i v) j = if i = j ∧ i < l.length then v else gi l j := by
  unfold gi
  rw [List.getD_eq_getElem?_getD, List.getD_eq_getElem?_getD, List.getElem?_set]
  by_cases h : i = j
  · subst h
    by_cases h2 : i < l.length
    · simp [h2]
    · simp [h2]
  · simp [h]
theorem Dig.set {l : List Int} (h : Dig l) (i : Nat) {v : Int} (h0 : 0 ≤ v) (h1 : v < 1000000000) : Dig (l.set i v) := fun d hd => by
  rcases List.mem_or_eq_of_mem_set hd with h2 | h2
  · exact h d h2
  · rw [h2]; exact ⟨h0, h1⟩
/-- A block of numbers. -/
def OutB (W : World) (b : Nat) (os : List Int) : Prop :=
  b < W.heap.size ∧ (∀ o, o < os.length → W.cell? ⟨b, o, none⟩ = some (.int .i64 (gi os o))) ∧ ∀ o, W.frozen? ⟨b, o, none⟩ = false
theorem OutB.to {W W' : World} {b : Nat} {os : List Int} (h : OutB W b os) (hb : Below W.heap.size W W') : OutB W' b os :=
  ⟨Nat.lt_of_lt_of_le h.1 hb.size, fun o ho => (hb.cell (p := ⟨b, o, none⟩) h.1).trans (h.2.1 o ho), fun o => (hb.frozen (p := ⟨b, o, none⟩) h.1).trans (h.2.2 o)⟩
theorem OutB.set {W : World} {b : Nat} {os : List Int} (h : OutB W b os) {i : Nat} (hi : i < os.length) (v : Int) : OutB (W.setCell ⟨b, i, none⟩ (.int .i64 v)) b (os.set i v) := by
  refine ⟨by simpa [World.setCell] using h.1, fun o ho => ?_, fun o => by rw [World.frozen?_setCell]; exact h.2.2 o⟩
  rw [List.length_set] at ho
  rw [gi_set]
  by_cases hio : i = o
  · subst hio
    rw [if_pos ⟨rfl, hi⟩]
    exact World.cell?_setCell_same _ _ _ (h.2.1 i hi)
  · rw [if_neg (fun h => hio h.1), World.cell?_setCell_other _ _ _ _ (by intro e; cases e; exact hio rfl)]
    exact h.2.1 o ho
theorem OutB.new (W : World) (L : Nat) : OutB (W.alloc (.cells (madeCells #[.int .i64 0] L) 3)) W.heap.size (List.replicate L 0) := by
  have h := Blk.new W (madeCells #[.int .i64 0] L) 3
  refine ⟨h.1, fun o ho => ?_, h.2.2⟩
  rw [List.length_replicate] at ho
  rw [h.2.1 o, gi_rep]
  unfold madeCells
  simp [ho, Nat.mod_one]
/-- What the loops of WideMul keep. -/
structure MulI (w W : World) (c0 c1 : Array Value) (BO : Nat) (os : List Int) : Prop where
  k0 : Blk W w.heap.size c0
  k1 : Blk W (w.heap.size + 1) c1
  k2 : Blk W (w.heap.size + 2) #[.int .i64 0, .slice none 0 0]
  out : OutB W BO os
  below : Below w.heap.size w W
theorem MulI.to {w W W' : World} {c0 c1 : Array Value} {BO : Nat} {os : List Int} (h : MulI w W c0 c1 BO os) (hb : Below W.heap.size W W') : MulI w W' c0 c1 BO os :=
  ⟨h.k0.to hb, h.k1.to hb, h.k2.to hb, h.out.to hb, bThen h.below hb⟩
theorem MulI.set {w W : World} {c0 c1 : Array Value} {BO : Nat} {os : List Int} (h : MulI w W c0 c1 BO os) (hB : w.heap.size + 3 ≤ BO) {i : Nat} (hi : i < os.length) (v : Int) : MulI w (W.setCell ⟨BO, i, none⟩ (.int .i64 v)) c0 c1 BO (os.set i v) :=
  ⟨h.k0.other (p := ⟨BO, i, none⟩) (by dsimp only; omega) _, h.k1.other (p := ⟨BO, i, none⟩) (by dsimp only; omega) _, h.k2.other (p := ⟨BO, i, none⟩) (by dsimp only; omega) _, h.out.set hi v, h.below.setCell (p := ⟨BO, i, none⟩) (by dsimp only; omega) _⟩

end Go.Proofs.YtjfedpblkejmkaaGreat

/-
  Numbers of any size: quotients rounded down, the plain law.
-/
namespace Go.Proofs.YtjfedpblkejmkaaGreat
open Go.RowKit

/-- What the search for a digit keeps. -/
structure Srch (N L lo hi : Int) : Prop where
  l0 : 0 ≤ lo
  lh : lo ≤ hi
  hb : hi ≤ 999999999
  low : N * lo ≤ L
  high : L < N * (hi + 1)
theorem Srch.start {N L x R : Int} (x0 : 0 ≤ x) (x1 : x < 1000000000) (r0 : 0 ≤ R) (r1 : R < N) (hL : L = x + 1000000000 * R) : Srch N L 0 999999999 := by
  refine ⟨by omega, by omega, by omega, by rw [Int.mul_zero]; omega, ?_⟩
  have : N * (999999999 + 1) = 1000000000 * N := Int.mul_comm _ _
  omega
theorem Srch.up {N L lo hi m : Int} (h : Srch N L lo hi) (h1 : lo < m) (h2 : m ≤ hi) (hm : N * m ≤ L) : Srch N L m hi :=
  ⟨by have := h.l0; omega, h2, h.hb, hm, h.high⟩
theorem Srch.fin {N L lo hi : Int} (h : Srch N L lo hi) (he : hi ≤ lo) : 0 ≤ L - N * lo ∧ L - N * lo < N := by
  have e : hi = lo := by have := h.lh; omega
  have h1 := h.high
  have h2 := h.low
  rw [e, Int.mul_add, Int.mul_one] at h1
  omega

end Go.Proofs.YtjfedpblkejmkaaGreat

/-
  Contracts of numbers of any size: WideFloor, whatever is divided.
-/
namespace Go.Proofs.YtjfedpblkejmkaaGreat
open Go.RowKit

theorem RW.zero (w : World) : RW w none (.agg #[.int .i64 0, .slice none 0 0]) 0 := by
  have e : dg 0 = [] := by unfold dg; rw [show (0 : Int).natAbs = 0 from rfl, digs_zero]
  exact ⟨0, by rw [e]; rfl, by rw [e]; simp, .inl (by rw [e]; rfl)⟩

end Go.Proofs.YtjfedpblkejmkaaGreat

/-
  Contracts of numbers of any size: wideGcd.
-/
namespace Go.Proofs.YtjfedpblkejmkaaGreat
open Go.RowKit

theorem RW.ex {W : World} {a : Option Addr} {v : Value} {z : Int} (h : RW W a v z) : ∃ s n c, v = .agg #[.int .i64 s, .slice a n c] := by
  obtain ⟨c, h1, -, -⟩ := h
  exact ⟨_, _, c, h1⟩
theorem Loc.imp {P Q : Nat → Prop} {a : Option Addr} {z : Int} (h : Loc P a z) (hi : ∀ b, P b → Q b) : Loc Q a z := fun hn p hp => hi _ (h hn p hp)
end Go.Proofs.YtjfedpblkejmkaaGreat

/-
  Contracts of fractions of any size: RatioMake.
-/
namespace Go.Proofs.YtjfedpblkejmkaaGreat
open Go.RowKit

theorem RW.set1 {W : World} {a : Option Addr} {v : Value} {z : Int} (h : RW W a v z) {b i : Nat} (hb : Loc (fun c => c ≠ b) a z) (x : Value) : RW (W.setCell ⟨b, i, none⟩ x) a v z := by
  by_cases hn : dg z = []
  · exact h.keep (fun _ => .inl (by rw [hn]; rfl))
  · exact h.keep (fun hr => hr.other _ _ (fun c off e => by subst e; exact hb hn _ rfl))
/-- A fraction as the program holds it: two numbers. -/
def RR (W : World) (a1 a2 : Option Addr) (v : Value) (q : Int × Int) : Prop :=
  ∃ s1 n1 c1 s2 n2 c2, v = .agg #[.int .i64 s1, .slice a1 n1 c1, .int .i64 s2, .slice a2 n2 c2] ∧ RW W a1 (.agg #[.int .i64 s1, .slice a1 n1 c1]) q.1 ∧ RW W a2 (.agg #[.int .i64 s2, .slice a2 n2 c2]) q.2
theorem RR.to {W W' : World} {a1 a2 : Option Addr} {v : Value} {q : Int × Int} (h : RR W a1 a2 v q) (hb : Below W.heap.size W W') : RR W' a1 a2 v q := by
  obtain ⟨s1, n1, c1, s2, n2, c2, e, h1, h2⟩ := h
  exact ⟨s1, n1, c1, s2, n2, c2, e, h1.to hb, h2.to hb⟩
theorem RR.set1 {W : World} {a1 a2 : Option Addr} {v : Value} {q : Int × Int} (h : RR W a1 a2 v q) {b i : Nat} (hb1 : Loc (fun c => c ≠ b) a1 q.1) (hb2 : Loc (fun c => c ≠ b) a2 q.2) (x : Value) : RR (W.setCell ⟨b, i, none⟩ x) a1 a2 v q := by
  obtain ⟨s1, n1, c1, s2, n2, c2, e, h1, h2⟩ := h
  exact ⟨s1, n1, c1, s2, n2, c2, e, h1.set1 hb1 x, h2.set1 hb2 x⟩
theorem fr_ediv (n m : Int) : fr n m = (n / (Int.gcd n m : Nat), m / (Int.gcd n m : Nat)) := by
  unfold fr
  rw [Int.tdiv_eq_ediv_of_dvd (Int.gcd_dvd_left ..), Int.tdiv_eq_ediv_of_dvd (Int.gcd_dvd_right ..)]
end Go.Proofs.YtjfedpblkejmkaaGreat

/-
  Contracts of fractions of any size: RatioInt, RatioOf, RatioFrom, RatioNeg, RatioMul, RatioAdd, RatioSub, RatioCmp.
-/
namespace Go.Proofs.YtjfedpblkejmkaaGreat
open Go.RowKit

theorem RR.mk' {W : World} {a1 a2 : Option Addr} {s1 s2 : Int} {n1 c1 n2 c2 : Nat} {x y : Int} (h1 : RW W a1 (.agg #[.int .i64 s1, .slice a1 n1 c1]) x) (h2 : RW W a2 (.agg #[.int .i64 s2, .slice a2 n2 c2]) y) : RR W a1 a2 (.agg #[.int .i64 s1, .slice a1 n1 c1, .int .i64 s2, .slice a2 n2 c2]) (x, y) := ⟨s1, n1, c1, s2, n2, c2, rfl, h1, h2⟩
theorem RR.ex {W : World} {a1 a2 : Option Addr} {v : Value} {q : Int × Int} (h : RR W a1 a2 v q) : ∃ s1 n1 c1 s2 n2 c2, v = .agg #[.int .i64 s1, .slice a1 n1 c1, .int .i64 s2, .slice a2 n2 c2] ∧ RW W a1 (.agg #[.int .i64 s1, .slice a1 n1 c1]) q.1 ∧ RW W a2 (.agg #[.int .i64 s2, .slice a2 n2 c2]) q.2 := h

end Go.Proofs.YtjfedpblkejmkaaGreat

/-
  A node's balance: the reference's equation of fractions is the program's sum of products.
-/
namespace Go.Proofs.YtjfedpblkejmkaaGreat
open Go.RowKit

def cmpQ (p q : Int × Int) : Int := (p.1 * q.2 - q.1 * p.2).sign
end Go.Proofs.YtjfedpblkejmkaaGreat

