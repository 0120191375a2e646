/-
  Texts of this claim, in their build order: OP1 W2.
-/
import Derived.Test.YtbpcapcgbnbknaaGreatOne5
import Derived.Test.YtbpcapcgbnbknaaGreatOne7
import Derived.Test.YtbpcapcgbnbknaaGreatOne2
import Derived.Test.YtbpcapcgbnbknaaGreatOne0

namespace Go.Proofs.YtbpcapcgbnbknaaGreat
section
open Go.RowKit

/-- The first index from k on, of m, at which it is so (k + m if nowhere). -/
def ixF (p : Nat → Bool) : Nat → Nat → Nat
  | k, 0 => k
  | k, m + 1 => if p k then k else ixF p (k + 1) m
theorem ixF_no (p : Nat → Bool) : ∀ m k j, k ≤ j → j < ixF p k m → p j = false
  | 0, k, j, h1, h2 => by unfold ixF at h2; omega
  | m + 1, k, j, h1, h2 => by
    unfold ixF at h2
    by_cases hp : p k = true
    · rw [if_pos hp] at h2; omega
    · rw [if_neg hp] at h2
      by_cases e : j = k
      · subst e; simpa using hp
      · exact ixF_no p m (k + 1) j (by omega) h2
theorem ixF_yes (p : Nat → Bool) : ∀ m k, ixF p k m < k + m → p (ixF p k m) = true
  | 0, k, h => by unfold ixF at h; omega
  | m + 1, k, h => by
    unfold ixF at h ⊢
    by_cases hp : p k = true
    · rw [if_pos hp]; exact hp
    · rw [if_neg hp] at h ⊢
      exact ixF_yes p m (k + 1) (by omega)
theorem ixF_step {p : Nat → Bool} {k n : Nat} (h : k < n) (h0 : p k = false) : ixF p k (n - k) = ixF p (k + 1) (n - (k + 1)) := by
  obtain ⟨m, hm⟩ : ∃ m, n - k = m + 1 := ⟨n - k - 1, by omega⟩
  rw [hm, ixF, if_neg (by rw [h0]; exact Bool.false_ne_true), show n - (k + 1) = m by omega]
theorem ixF_stop {p : Nat → Bool} {k n : Nat} (h : k < n) (h0 : p k = true) : ixF p k (n - k) = k := by
  obtain ⟨m, hm⟩ : ∃ m, n - k = m + 1 := ⟨n - k - 1, by omega⟩
  rw [hm, ixF, if_pos h0]

/-- Points of a line that rises: at most 8, the first at 0. -/
structure PtsOk (l : List (Int × Int)) : Prop where
  two : 2 ≤ l.length
  few : l.length ≤ 8
  v0 : (fg l 0).1 = 0
  vol : ∀ k, k < l.length → 0 ≤ (fg l k).1 ∧ (fg l k).1 ≤ 200
  prs : ∀ k, k < l.length → 0 ≤ (fg l k).2 ∧ (fg l k).2 ≤ 1000
  up : ∀ k, k + 1 < l.length → (fg l k).1 < (fg l (k + 1)).1 ∧ (fg l k).2 < (fg l (k + 1)).2
def capV (l : List (Int × Int)) : Int := (fg l (l.length - 1)).1
/-- The first point at or beyond a number. -/
def ptI (l : List (Int × Int)) (v : Int) : Nat := ixF (fun j => decide (v ≤ (fg l j).1)) 0 l.length
/-- The value between two points. -/
def segQ (a b : Int × Int) (v : Int) : Int × Int := (a.2 * (b.1 - a.1) + (b.2 - a.2) * (v - a.1), b.1 - a.1)
/-- The program's value of the line: a quotient. -/
def prQ (l : List (Int × Int)) (v : Int) : Int × Int := if (fg l (ptI l v)).1 = v then ((fg l (ptI l v)).2, 1) else segQ (fg l (ptI l v - 1)) (fg l (ptI l v)) v
theorem PtsOk.mono {l : List (Int × Int)} (h : PtsOk l) {i : Nat} : ∀ {d : Nat}, i + d < l.length → (fg l i).1 + d ≤ (fg l (i + d)).1 ∧ (fg l i).2 + d ≤ (fg l (i + d)).2
  | 0, _ => by simp
  | d + 1, hd => by
    have h1 := h.mono (i := i) (d := d) (by omega)
    have h2 := h.up (i + d) (by omega)
    rw [show i + (d + 1) = i + d + 1 by omega]
    omega
theorem PtsOk.leP {l : List (Int × Int)} (h : PtsOk l) {i j : Nat} (hij : i ≤ j) (hj : j < l.length) : (fg l i).2 ≤ (fg l j).2 := by
  obtain ⟨d, rfl⟩ := Nat.exists_eq_add_of_le hij
  have := (h.mono (i := i) (d := d) hj).2; omega
theorem ptI_lt {l : List (Int × Int)} {v : Int} (h : PtsOk l) (hv : v ≤ capV l) : ptI l v < l.length := by
  rcases Nat.lt_or_ge (ptI l v) l.length with h1 | h1
  · exact h1
  · have h2 := ixF_no (fun j => decide (v ≤ (fg l j).1)) l.length 0 (l.length - 1) (Nat.zero_le _) (by have := h.two; unfold ptI at h1; omega)
    have h3 : ¬ v ≤ (fg l (l.length - 1)).1 := of_decide_eq_false h2
    unfold capV at hv
    omega
theorem ptI_ge {l : List (Int × Int)} {v : Int} (h : PtsOk l) (hv : v ≤ capV l) : v ≤ (fg l (ptI l v)).1 := by
  have := ixF_yes (fun j => decide (v ≤ (fg l j).1)) l.length 0 (by have := ptI_lt h hv; unfold ptI at this; omega)
  exact of_decide_eq_true this
theorem ptI_gt {l : List (Int × Int)} {v : Int} {j : Nat} (hj : j < ptI l v) : (fg l j).1 < v := by
  have := ixF_no (fun j => decide (v ≤ (fg l j).1)) l.length 0 j (Nat.zero_le _) hj
  have : ¬ v ≤ (fg l j).1 := of_decide_eq_false this
  omega
theorem ptI_pos {l : List (Int × Int)} {v : Int} (h : PtsOk l) (h0 : 0 < v) (hv : v ≤ capV l) : 0 < ptI l v := by
  rcases Nat.eq_zero_or_pos (ptI l v) with e | e
  · have := ptI_ge h hv
    rw [e, h.v0] at this; omega
  · exact e
theorem ptI_zero {l : List (Int × Int)} (h : PtsOk l) : ptI l 0 = 0 := by
  unfold ptI
  obtain ⟨m, hm⟩ : ∃ m, l.length = m + 1 := ⟨l.length - 1, by have := h.two; omega⟩
  rw [hm, ixF, if_pos]
  rw [h.v0]; rfl
/-- What a number above 0 lies between. -/
theorem seg_bd {a b : Int × Int} {v : Int} (h1 : a.1 < v) (h2 : v ≤ b.1) (h3 : a.2 < b.2) : 0 < (segQ a b v).2 ∧ a.2 * (segQ a b v).2 < (segQ a b v).1 ∧ (segQ a b v).1 ≤ b.2 * (segQ a b v).2 := by
  unfold segQ
  dsimp only
  have p1 : 0 < (b.2 - a.2) * (v - a.1) := Int.mul_pos (by omega) (by omega)
  have p2 : 0 ≤ (b.2 - a.2) * (b.1 - v) := Int.mul_nonneg (by omega) (by omega)
  have e : b.2 * (b.1 - a.1) - (a.2 * (b.1 - a.1) + (b.2 - a.2) * (v - a.1)) = (b.2 - a.2) * (b.1 - v) := by grind
  exact ⟨by omega, by omega, by omega⟩
/-- The value is that of a quotient with these parts. -/
theorem prQ_seg {l : List (Int × Int)} {v : Int} (_h : PtsOk l) (h0 : 0 < v) (hv : v ≤ capV l) :
    (prQ l v).1 * (segQ (fg l (ptI l v - 1)) (fg l (ptI l v)) v).2 = (segQ (fg l (ptI l v - 1)) (fg l (ptI l v)) v).1 * (prQ l v).2 := by
  unfold prQ
  split
  · rename_i e
    unfold segQ
    dsimp only
    generalize fg l (ptI l v - 1) = a at *
    generalize fg l (ptI l v) = b at *
    subst e
    grind
  · rfl
theorem prQ_zero {l : List (Int × Int)} (h : PtsOk l) : prQ l 0 = ((fg l 0).2, 1) := by
  unfold prQ
  rw [ptI_zero h, if_pos h.v0]
theorem prQ_den {l : List (Int × Int)} {v : Int} (h : PtsOk l) (h0 : 0 ≤ v) (hv : v ≤ capV l) : 1 ≤ (prQ l v).2 ∧ (prQ l v).2 ≤ 200 ∧ 0 ≤ (prQ l v).1 ∧ (prQ l v).1 ≤ 1000 * (prQ l v).2 := by
  have hi := ptI_lt h hv
  have hp := h.prs _ hi
  unfold prQ
  split
  · dsimp only; omega
  · rename_i e
    have hpos : 0 < ptI l v := by
      rcases Nat.eq_zero_or_pos (ptI l v) with e2 | e2
      · have := ptI_ge h hv
        rw [e2, h.v0] at this
        have : v = 0 := by omega
        subst this
        rw [ptI_zero h] at e
        exact absurd h.v0 e
      · exact e2
    have h1 := ptI_gt (l := l) (v := v) (j := ptI l v - 1) (by omega)
    have h2 := ptI_ge h hv
    have h3 := h.up (ptI l v - 1) (by omega)
    rw [show ptI l v - 1 + 1 = ptI l v by omega] at h3
    obtain ⟨b1, b2, b3⟩ := seg_bd h1 h2 h3.2
    have hv1 := h.vol _ hi
    have hv2 := h.vol (ptI l v - 1) (by omega)
    have hp2 := h.prs (ptI l v - 1) (by omega)
    have hd : (segQ (fg l (ptI l v - 1)) (fg l (ptI l v)) v).2 = (fg l (ptI l v)).1 - (fg l (ptI l v - 1)).1 := rfl
    generalize segQ (fg l (ptI l v - 1)) (fg l (ptI l v)) v = s at *
    have q1 : 0 ≤ (fg l (ptI l v - 1)).2 * s.2 := Int.mul_nonneg hp2.1 (by omega)
    have q2 : (fg l (ptI l v)).2 * s.2 ≤ 1000 * s.2 := Int.mul_le_mul_of_nonneg_right hp.2 (by omega)
    omega
/-- A greater number has a greater value. -/
theorem prQ_up {l : List (Int × Int)} {v u : Int} (h : PtsOk l) (h0 : 0 ≤ v) (hvu : v < u) (hu : u ≤ capV l) : (prQ l v).1 * (prQ l u).2 < (prQ l u).1 * (prQ l v).2 := by
  have dv := (prQ_den h h0 (by omega : v ≤ capV l)).1
  have du := (prQ_den h (by omega) hu).1
  have su := prQ_seg h (by omega : 0 < u) hu
  have iu := ptI_lt h hu
  have pu := ptI_pos h (by omega) hu
  have gu := ptI_gt (l := l) (v := u) (j := ptI l u - 1) (by omega)
  have hu2 := ptI_ge h hu
  have upu := h.up (ptI l u - 1) (by omega)
  rw [show ptI l u - 1 + 1 = ptI l u by omega] at upu
  obtain ⟨b1, b2, b3⟩ := seg_bd gu hu2 upu.2
  -- the value at u is above that of the point before it
  have key : (fg l (ptI l u - 1)).2 * (prQ l u).2 < (prQ l u).1 := by
    generalize segQ (fg l (ptI l u - 1)) (fg l (ptI l u)) u = s at *
    generalize prQ l u = q at *
    generalize (fg l (ptI l u - 1)).2 = y at *
    have e1 : y * s.2 * q.2 < s.1 * q.2 := Int.mul_lt_mul_of_pos_right b2 (by omega)
    rw [← su] at e1
    have e2 : y * s.2 * q.2 = y * q.2 * s.2 := by grind
    rw [e2] at e1
    exact Int.lt_of_mul_lt_mul_right e1 (by omega)
  by_cases hv0 : v = 0
  · subst hv0
    rw [prQ_zero h]
    dsimp only
    have := h.leP (i := 0) (j := ptI l u - 1) (Nat.zero_le _) (by omega)
    have := Int.mul_le_mul_of_nonneg_right this (show 0 ≤ (prQ l u).2 by omega)
    omega
  · have sv := prQ_seg h (by omega : 0 < v) (by omega : v ≤ capV l)
    have iv := ptI_lt h (by omega : v ≤ capV l)
    have pv := ptI_pos h (by omega) (by omega : v ≤ capV l)
    have gv := ptI_gt (l := l) (v := v) (j := ptI l v - 1) (by omega)
    have hv2 := ptI_ge h (by omega : v ≤ capV l)
    have upv := h.up (ptI l v - 1) (by omega)
    rw [show ptI l v - 1 + 1 = ptI l v by omega] at upv
    obtain ⟨c1, c2, c3⟩ := seg_bd gv hv2 upv.2
    by_cases hij : ptI l v = ptI l u
    · rw [hij] at sv c1 gv hv2 upv
      have hlt : (segQ (fg l (ptI l u - 1)) (fg l (ptI l u)) v).1 < (segQ (fg l (ptI l u - 1)) (fg l (ptI l u)) u).1 := by
        unfold segQ
        dsimp only
        have p1 : 0 < ((fg l (ptI l u)).2 - (fg l (ptI l u - 1)).2) * (u - v) := Int.mul_pos (by omega) (by omega)
        generalize fg l (ptI l u) = b at *
        generalize fg l (ptI l u - 1) = a at *
        have e : (b.2 - a.2) * (u - a.1) - (b.2 - a.2) * (v - a.1) = (b.2 - a.2) * (u - v) := by grind
        omega
      have hd : (segQ (fg l (ptI l u - 1)) (fg l (ptI l u)) v).2 = (segQ (fg l (ptI l u - 1)) (fg l (ptI l u)) u).2 := rfl
      generalize segQ (fg l (ptI l u - 1)) (fg l (ptI l u)) v = s at *
      generalize segQ (fg l (ptI l u - 1)) (fg l (ptI l u)) u = t at *
      generalize prQ l u = q at *
      generalize prQ l v = p at *
      -- p = s/t.2, q = t.1/t.2
      rw [hd] at sv
      have e1 : s.1 * (p.2 * q.2) < t.1 * (p.2 * q.2) := Int.mul_lt_mul_of_pos_right hlt (Int.mul_pos (by omega) (by omega))
      have e2 : s.1 * (p.2 * q.2) = p.1 * q.2 * t.2 := by rw [← Int.mul_assoc, ← sv]; grind
      have e3 : t.1 * (p.2 * q.2) = q.1 * p.2 * t.2 := by rw [Int.mul_comm p.2, ← Int.mul_assoc, ← su]; grind
      rw [e2, e3] at e1
      exact Int.lt_of_mul_lt_mul_right e1 (by omega)
    · have hlt : ptI l v < ptI l u := by
        rcases Nat.lt_or_ge (ptI l v) (ptI l u) with h1 | h1
        · exact h1
        · have := ptI_gt (l := l) (v := v) (j := ptI l u) (by omega)
          omega
      have hle := h.leP (i := ptI l v) (j := ptI l u - 1) (by omega) (by omega)
      -- the value at v is at most that of its point
      have key2 : (prQ l v).1 ≤ (fg l (ptI l v)).2 * (prQ l v).2 := by
        generalize segQ (fg l (ptI l v - 1)) (fg l (ptI l v)) v = s at *
        generalize prQ l v = q at *
        generalize (fg l (ptI l v)).2 = y at *
        have e1 : s.1 * q.2 ≤ y * s.2 * q.2 := Int.mul_le_mul_of_nonneg_right c3 (by omega)
        rw [← sv] at e1
        have e2 : y * s.2 * q.2 = y * q.2 * s.2 := by grind
        rw [e2] at e1
        exact Int.le_of_mul_le_mul_right e1 (by omega)
      generalize prQ l u = q at *
      generalize prQ l v = p at *
      generalize (fg l (ptI l v)).2 = y at *
      generalize (fg l (ptI l u - 1)).2 = z at *
      have e1 : p.1 * q.2 ≤ y * p.2 * q.2 := Int.mul_le_mul_of_nonneg_right key2 (by omega)
      have e2 : y * (p.2 * q.2) ≤ z * (p.2 * q.2) := Int.mul_le_mul_of_nonneg_right hle (Int.mul_nonneg (by omega) (by omega))
      have e3 : z * q.2 * p.2 < q.1 * p.2 := Int.mul_lt_mul_of_pos_right key (by omega)
      have e4 : y * p.2 * q.2 = y * (p.2 * q.2) := by grind
      have e5 : z * q.2 * p.2 = z * (p.2 * q.2) := by grind
      omega

/-- The reference's value of the line. -/
def rSeg (a b : Int × Int) (v : Int) : Int × Int := rAdd (a.2, 1) (fr ((b.2 - a.2) * (v - a.1)) (b.1 - a.1))
def rPrI (l : List (Int × Int)) (v : Int) : Nat := ixF (fun j => decide (v ≤ (fg l j).1)) 1 (l.length - 1)
def rPr (l : List (Int × Int)) (v : Int) : Int × Int := if rPrI l v < l.length then rSeg (fg l (rPrI l v - 1)) (fg l (rPrI l v)) v else (0, 1)
theorem rSeg_eq {a b : Int × Int} (v : Int) (h : a.1 < b.1) : rSeg a b v = fr (segQ a b v).1 (segQ a b v).2 := by
  unfold rSeg rAdd segQ
  dsimp only
  have hD : 0 < b.1 - a.1 := by omega
  have h1 := fr_mul (n := (b.2 - a.2) * (v - a.1)) hD
  have h2 := fr_pos (n := (b.2 - a.2) * (v - a.1)) hD
  generalize fr ((b.2 - a.2) * (v - a.1)) (b.1 - a.1) = f at *
  refine fr_eq (by omega) hD ?_
  generalize b.1 - a.1 = D at *
  generalize (b.2 - a.2) * (v - a.1) = M at *
  grind
theorem rPr_eq {l : List (Int × Int)} {v : Int} (h : PtsOk l) (h0 : 0 ≤ v) (hv : v ≤ capV l) : rPr l v = fr (prQ l v).1 (prQ l v).2 := by
  have h2 := h.two
  by_cases hv0 : v = 0
  · subst hv0
    rw [prQ_zero h]
    have hi : rPrI l 0 = 1 := by
      unfold rPrI
      obtain ⟨m, hm⟩ : ∃ m, l.length - 1 = m + 1 := ⟨l.length - 2, by omega⟩
      rw [hm, ixF, if_pos]
      exact decide_eq_true (h.vol 1 (by omega)).1
    have hu := h.up 0 (by omega)
    unfold rPr
    rw [hi, if_pos (by omega), rSeg_eq _ (by exact hu.1)]
    show fr (segQ (fg l 0) (fg l 1) 0).1 (segQ (fg l 0) (fg l 1) 0).2 = _
    unfold segQ
    dsimp only
    rw [h.v0]
    have := hu.1
    rw [h.v0] at this
    refine fr_eq (by simp only [Nat.zero_add] at this; omega) (by decide) ?_
    grind
  · have hi : rPrI l v = ptI l v := by
      unfold rPrI ptI
      have := ixF_step (p := fun j => decide (v ≤ (fg l j).1)) (k := 0) (n := l.length) (by omega) (decide_eq_false (by rw [h.v0]; omega))
      rw [Nat.sub_zero] at this
      rw [this]
    have iv := ptI_lt h hv
    have pv := ptI_pos h (by omega) hv
    have gv := ptI_gt (l := l) (v := v) (j := ptI l v - 1) (by omega)
    have hv2 := ptI_ge h hv
    unfold rPr
    rw [hi, if_pos iv, rSeg_eq _ (by omega)]
    have hd := (prQ_den h h0 hv).1
    refine fr_eq (by show 0 < (fg l (ptI l v)).1 - (fg l (ptI l v - 1)).1; omega) (by omega) ?_
    have := prQ_seg h (by omega) hv
    rw [this]
end
section
set_option maxHeartbeats 400000
open Go.RowKit

theorem Reads.takeW {W : World} {a : Option Addr} {l : List Int} (h : Reads W a l.length (ints l)) (n : Nat) : Reads W a (l.take n).length (ints (l.take n)) := by
  have hl : (l.take n).length ≤ l.length := by rw [List.length_take]; omega
  rcases h with h | ⟨b, off, ha, hlt, hc⟩
  · exact .inl (by omega)
  · refine .inr ⟨b, off, ha, hlt, fun i hi => ?_⟩
    rw [hc i (by omega)]
    unfold ints
    rw [gi_lt hi, gi_lt (by omega), List.getElem_take]

set_option maxRecDepth 100000 in
theorem trimmed_any (l : List Int) (a : Option Addr) (cap : Nat) (w : World) (hd : Dig l) (hlen : l.length ≤ 1000) (hcap : l.length ≤ cap) (hr : Reads w a l.length (ints l)) :
    Calls Tryz.prog 154 #[.slice a l.length cap] w fun e w' => e = .returned (.slice a (digs (val l).toNat).length cap) ∧ Below w.heap.size w w' := by
  have HD := zH hd
  have HR := zH hr
  clear hd hr
  go_enter Tryz.func154, Tryz.ntmps154
  go_wp2_with fail
  go_loopw [3] (fun v wr => ∃ n : Nat, n ≤ l.length ∧ v = .int .i64 n ∧ Hid (∀ k, n ≤ k → k < l.length → gi l k = 0) ∧ Hid (w = wr)) (fun v _ => (intOf v).toNat)
  case atStart => exact ⟨l.length, Nat.le_refl _, rfl, zH (fun k h1 h2 => by omega), zH rfl⟩
  case round =>
    obtain ⟨n, hn, rfl, hz, hw⟩ := hrel
    have hT : (n = 0 ∨ gi l (n - 1) ≠ 0) → (digs (val l).toNat).length = n := fun h => by
      rw [← trim_eq HD.out hn hz.out h, List.length_take, Nat.min_eq_left hn]
    have HT := zH hT
    clear hT
    by_cases h0 : n = 0
    · have h1 : decide ((0 : Int) < (n : Int)) = false := decide_eq_false (by omega)
      have h2 : decide (0 < n) = false := decide_eq_false (by omega)
      go_wp2_with fail
      go_ret
      exact ⟨by rw [HT.out (.inl h0), h0]; rfl, by rw [hw.out]; exact bSelf _⟩
    · obtain ⟨k, hk⟩ : ∃ k, n = k + 1 := ⟨n - 1, by omega⟩
      have hik : (n : Int) - 1 = (k : Int) := by omega
      have h1 : decide ((0 : Int) < (n : Int)) = true := decide_eq_true (by omega)
      have h2 : decide (0 < n) = true := decide_eq_true (by omega)
      obtain ⟨b, off, rfl, hb, hc⟩ := HR.out.at (k := k) (by omega)
      have c1 : wr.cell? ⟨b, off + k, none⟩ = some (.int .i64 (gi l k)) := by rw [← hw.out]; exact hc k (by omega)
      have hkl : k < l.length := by omega
      clear hc hb
      have HK := zH hk
      clear hk
      by_cases hg : gi l k = 0
      · have hg1 : (gi l k == 0) = true := by simpa using hg
        have HG := zH hg
        clear hg
        go_wp2_with fail
        go_roundw
        case rel => exact ⟨k, by omega, by go_num, zH (fun j h1 h2 => by
          by_cases hj : j = k
          · rw [hj]; exact HG.out
          · exact hz.out j (by have := HK.out; omega) h2), hw⟩
        case measure => simp [intOf]; have := HK.out; omega
      · have hg1 : (gi l k == 0) = false := by simpa using hg
        have HG := zH hg
        clear hg
        have hnc : n ≤ cap := by omega
        go_wp2_with fail
        go_ret
        exact ⟨by rw [HT.out (.inr (by rw [HK.out]; exact HG.out))]; rfl, by rw [hw.out]; exact bSelf _⟩

theorem sign_of (s : Int) (n : Nat) (hs : s = 1 ∨ s = -1 ∨ n = 0) : (s * (n : Int)).sign = (if n = 0 then 0 else s) := by
  by_cases h : n = 0
  · rw [if_pos h, h]; simp
  · rw [if_neg h]
    rcases hs with rfl | rfl | h'
    · rw [Int.one_mul]; exact Int.sign_eq_one_of_pos (by omega)
    · rw [Int.neg_mul, Int.one_mul]; exact Int.sign_eq_neg_one_of_neg (by omega)
    · exact absurd h' h
theorem natAbs_of (s : Int) (n : Nat) (hs : s = 1 ∨ s = -1 ∨ n = 0) : (s * (n : Int)).natAbs = n := by
  rcases hs with rfl | rfl | rfl
  · simp
  · simp
  · simp

theorem wideOf_any (s : Int) (l : List Int) (a : Option Addr) (cap : Nat) (w : World) (hd : Dig l) (hs : s = 1 ∨ s = -1 ∨ val l = 0) (hlen : l.length ≤ 1000) (hcap : l.length ≤ cap) (hr : Reads w a l.length (ints l)) :
    Calls Tryz.prog 127 #[.int .i64 s, .slice a l.length cap] w fun e w1 => WAt a (s * val l) w e w1 := by
  have hv := val_nonneg hd
  obtain ⟨n, hn⟩ : ∃ n : Nat, val l = n := ⟨(val l).toNat, by omega⟩
  have hs' : s = 1 ∨ s = -1 ∨ n = 0 := by rcases hs with h | h | h; exact .inl h; exact .inr (.inl h); exact .inr (.inr (by omega))
  have hnn : (val l).toNat = n := by omega
  have e1 : (s * val l).sign = (if n = 0 then 0 else s) := by rw [hn]; exact sign_of s n hs'
  have e2 : dg (s * val l) = digs n := by unfold dg; rw [hn, natAbs_of s n hs']
  have hpre : ∃ m, digs n = l.take m := by
    have h := canon_eq (digs_dig n) (digs_noz n)
    exact trim_ex hd hn
  have hml : (digs n).length ≤ l.length := by
    obtain ⟨m, hm⟩ := hpre
    rw [hm, List.length_take]; omega
  have hrd : Hid (∀ W, Reads W a l.length (ints l) → Reads W a (digs n).length (ints (digs n))) := zH (fun W h => by
    obtain ⟨m, hm⟩ := hpre
    rw [hm]; exact Reads.takeW h m)
  have hm0 : (digs n).length = 0 ↔ n = 0 := by
    constructor
    · intro h; exact digs_nil (List.length_eq_zero_iff.1 h)
    · intro h; rw [h, digs_zero]; rfl
  have HT := zH (fun W h => trimmed_any l a cap W hd hlen hcap h)
  rw [hnn] at HT
  have HP : Hid (∀ (w' : World), Reads w' a l.length (ints l) → Below w.heap.size w w' → ∀ e, e = .returned (.agg #[.int .i64 (if n = 0 then 0 else s), .slice a (digs n).length cap]) → WAt a (s * val l) w e w') := zH (fun w' h hb e he => by
    refine ⟨_, he, ?_, hb⟩
    refine ⟨cap, by rw [e1, e2], by rw [e2]; omega, by rw [e2]; exact hrd.out _ h⟩)
  obtain ⟨D, hD⟩ : ∃ D, digs n = D := ⟨_, rfl⟩
  rw [hD] at HT HP hml hm0
  have HR0 := zH hr
  clear hr hs e1 e2 hpre hrd hn hnn hD hv
  go_enter Tryz.func127, Tryz.ntmps127
  go_wp2_with fail
  refine (HT.out _ (HR0.out.alloc _)).mono ?_
  rintro e w1 ⟨rfl, hb⟩
  have K0 := zH ((Blk.new w #[.int .i64 0, .slice none 0 0] 63).to hb)
  have HR := zH ((HR0.out.alloc (.cells #[.int .i64 0, .slice none 0 0] 63)).to hb)
  have HB := zH (bThen (bAlloc (bSelf w) _) hb)
  clear hb
  obtain ⟨h0, k0, f0⟩ := K0.out
  by_cases hz : n = 0
  · have hq : ((D.length : Int) == 0) = true := by rw [hm0.2 hz]; rfl
    rw [if_pos hz] at HP
    clear hz
    go_wp2_with fail
    clear k0 f0
    have F := ((K0.out.set 0 (.int .i64 0)).set 1 (.slice a D.length cap)).2.1
    have F0 := F 0; have F1 := F 1
    clear F
    have hF : Below w.heap.size w ((w1.setCell ⟨w.heap.size, 0, none⟩ (.int .i64 0)).setCell ⟨w.heap.size, 1, none⟩ (.slice a D.length cap)) := (HB.out.setCell (p := ⟨w.heap.size, 0, none⟩) (Nat.le_refl _) _).setCell (p := ⟨w.heap.size, 1, none⟩) (Nat.le_refl _) _
    refine bodyPost_ret (v := .agg #[.int .i64 0, .slice a D.length cap]) ?_ rfl (HP.out _ (HR0.out.to hF) hF _ rfl)
    simp [results, Tryz.results127, go_sem, F0, F1]
  · have hq : ((D.length : Int) == 0) = false := beq_false_of_ne (fun h => hz (hm0.1 (by omega)))
    rw [if_neg hz] at HP
    clear hz
    go_wp2_with fail
    clear k0 f0
    have F := ((K0.out.set 0 (.int .i64 s)).set 1 (.slice a D.length cap)).2.1
    have F0 := F 0; have F1 := F 1
    clear F
    have hF : Below w.heap.size w ((w1.setCell ⟨w.heap.size, 0, none⟩ (.int .i64 s)).setCell ⟨w.heap.size, 1, none⟩ (.slice a D.length cap)) := (HB.out.setCell (p := ⟨w.heap.size, 0, none⟩) (Nat.le_refl _) _).setCell (p := ⟨w.heap.size, 1, none⟩) (Nat.le_refl _) _
    refine bodyPost_ret (v := .agg #[.int .i64 s, .slice a D.length cap]) ?_ rfl (HP.out _ (HR0.out.to hF) hF _ rfl)
    simp [results, Tryz.results127, go_sem, F0, F1]
end
end Go.Proofs.YtbpcapcgbnbknaaGreat
