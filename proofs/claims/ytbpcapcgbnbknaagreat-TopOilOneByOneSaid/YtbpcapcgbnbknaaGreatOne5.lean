/-
  Texts of this claim, in their build order: E1 E2 E3 E4 E5 G1 G2 X1 X3 W1 P1 V2.
-/
import Derived.Test.YtbpcapcgbnbknaaGreatOne3
import Derived.Test.YtbpcapcgbnbknaaGreatOne4
import Derived.Test.YtbpcapcgbnbknaaGreatOne2
import Derived.Test.YtbpcapcgbnbknaaGreatRows
import Derived.ProofKit
import Derived.OpenShut
import Derived.ShutString
import Derived.ChangeOld
import Derived.Deep.Strs
import Derived.Test.YtbpcapcgbnbknaaGreatOne1
import Derived.Shelf.Bits.Mul64
import Derived.Shelf.Spec.BitsCarry

namespace Go.Proofs.YtbpcapcgbnbknaaGreat
section
open Go.RowKit

theorem gcd_step {x y : Int} : Int.gcd y (x.tmod y) = Int.gcd x y := by
  unfold Int.gcd
  rw [Int.natAbs_tmod, Nat.gcd_comm x.natAbs, Nat.gcd_rec y.natAbs x.natAbs, Nat.gcd_comm]

/-- A fraction in lowest terms. -/
def fr (n m : Int) : Int × Int := (n.tdiv (Int.gcd n m : Nat), m.tdiv (Int.gcd n m : Nat))
theorem tdivB {n g : Int} {B : Nat} (h : n.natAbs ≤ B) : (n.tdiv g).natAbs ≤ B := by
  rw [Int.natAbs_tdiv]; exact Nat.le_trans (Nat.div_le_self _ _) h
theorem fr_pos {n m : Int} (hm : 0 < m) : 0 < (fr n m).2 := by
  unfold fr
  have h1 : 0 < Int.gcd n m := Nat.pos_of_ne_zero (fun h => by have := (Int.gcd_eq_zero_iff.1 h).2; omega)
  have h2 : ((Int.gcd n m : Nat) : Int) ∣ m := Int.gcd_dvd_right ..
  obtain ⟨c, hc⟩ := h2
  have h3 : m.tdiv ((Int.gcd n m : Nat) : Int) = c := by
    conv => lhs; arg 1; rw [hc]
    exact Int.mul_tdiv_cancel_left _ (by omega)
  show 0 < m.tdiv ((Int.gcd n m : Nat) : Int)
  rw [h3]
  rcases Int.lt_or_le 0 c with h | h
  · exact h
  · have : ((Int.gcd n m : Nat) : Int) * c ≤ 0 := Int.mul_nonpos_of_nonneg_of_nonpos (by omega) h
    omega
theorem fr_bd1 {n m : Int} {B : Nat} (h : n.natAbs ≤ B) : (fr n m).1.natAbs ≤ B := tdivB h
theorem fr_bd2 {n m : Int} {B : Nat} (h : m.natAbs ≤ B) : (fr n m).2.natAbs ≤ B := tdivB h
end
section
open Go.RowKit

/-- The error of a node. -/
def nodE (ks fs : List Int) (k : Nat) : Int := unl ((decide (1 ≤ gi ks k) && decide (gi ks k ≤ 20)) && (decide (-1000 ≤ gi fs k) && decide (gi fs k ≤ 1000))) 2
def chE0 (ks fs : List Int) : Int := firstE [unl (decide ((0 : Int) < ks.length) && ((fs.length : Int) == ks.length)) 10, unl (decide ((ks.length : Int) ≤ 6)) 8]
def chkC (ks fs : List Int) : Int × Int := if chE0 ks fs = 0 then eachR (nodE ks fs) 0 ks.length else (0, chE0 ks fs)
/-- A chain as a value. -/
abbrev chV (a1 : Option Addr) (n1 c1 : Nat) (a2 : Option Addr) (n2 c2 : Nat) : Array Value := #[.slice a1 n1 c1, .slice a2 n2 c2]
end
section
open Go.RowKit

/-- The displacement at a node, out of the one below and what its own spring adds. -/
def ownF (ks fs : List Int) (k : Nat) : Int × Int := fr (fs.drop k).sum (gi ks k)
def nextAt (p q : Int × Int) : Int × Int :=
  fr (p.1 * q.2.tdiv (Int.gcd p.2 q.2 : Nat) + q.1 * p.2.tdiv (Int.gcd p.2 q.2 : Nat)) (p.2.tdiv (Int.gcd p.2 q.2 : Nat) * q.2)
def fits (p : Int × Int) : Bool := (decide (-1000000000 ≤ p.1) && decide (p.1 ≤ 1000000000)) && decide (p.2 ≤ 1000000000)
def movO (ks fs : List Int) : Nat → Nat → Int × Int → Option (List (Int × Int))
  | 0, _, _ => some []
  | n + 1, k, p => if fits (nextAt p (ownF ks fs k)) then (movO ks fs n (k + 1) (nextAt p (ownF ks fs k))).map (nextAt p (ownF ks fs k) :: ·) else none
def fcells (l : List (Int × Int)) : List Value := l.flatMap fun p => [.int .i64 p.1, .int .i64 p.2]
def fg (l : List (Int × Int)) (i : Nat) : Int × Int := l.getD i (0, 0)
def fracs (l : List (Int × Int)) (j : Nat) : Value := .int .i64 (if j % 2 = 0 then (fg l (j / 2)).1 else (fg l (j / 2)).2)

theorem fcells_len (l : List (Int × Int)) : (fcells l).length = l.length * 2 := by
  induction l with
  | nil => rfl
  | cons p l ih => simp only [fcells, List.flatMap_cons, List.length_append, List.length_cons, List.length_nil] at *; omega
theorem fcells_get : ∀ (l : List (Int × Int)) (i : Nat), i < l.length * 2 → (fcells l)[i]? = some (fracs l i)
  | [], i, h => by simp at h
  | p :: l, i, h => by
    have hm : fcells (p :: l) = .int .i64 p.1 :: .int .i64 p.2 :: fcells l := rfl
    rw [hm]
    match i with
    | 0 => rfl
    | 1 => rfl
    | i + 2 =>
      simp only [List.getElem?_cons_succ]
      rw [fcells_get l i (by simp only [List.length_cons] at h; omega)]
      unfold fracs
      rw [show (i + 2) / 2 = i / 2 + 1 by omega, show (i + 2) % 2 = i % 2 by omega]
      rfl

/-- A valid chain. -/
structure ChOk (ks fs : List Int) : Prop where
  len : fs.length = ks.length
  few : ks.length ≤ 6
  k1 : ∀ k, k < ks.length → 1 ≤ gi ks k ∧ gi ks k ≤ 20
  f1 : ∀ k, k < ks.length → -1000 ≤ gi fs k ∧ gi fs k ≤ 1000
/-- What stands at the head of a round. -/
structure MovSt (ks fs : List Int) (a1 a2 : Option Addr) (c1 c2 : Nat) (w : World) (k : Nat) (v : Value) (p : Int × Int) (pre : List (Int × Int)) (wr : World) : Prop where
  hk : k ≤ ks.length
  chain : Blk wr w.heap.size (chV a1 ks.length c1 a2 ks.length c2)
  here : Blk wr (w.heap.size + 1) #[.int .i64 p.1, .int .i64 p.2]
  own : wr.ownsRow (w.heap.size + 2) 77 2 v pre.length (fcells pre)
  bel : Below w.heap.size w wr
  eq : movO ks fs ks.length 0 (0, 1) = (movO ks fs (ks.length - k) k p).map (pre ++ ·)
  len : pre.length = k
  n1 : p.1.natAbs ≤ 1000000000
  d0 : 0 < p.2
  d1 : p.2 ≤ 1000000000

theorem movO_none {ks fs : List Int} {n k : Nat} {p q : Int × Int} (hq : nextAt p (ownF ks fs k) = q) (hf : fits q = false) : movO ks fs (n + 1) k p = none := by
  subst hq; rw [movO, if_neg (by rw [hf]; simp)]
theorem MovSt.stop {ks fs : List Int} {k : Nat} {p q : Int × Int} {pre : List (Int × Int)} (h : movO ks fs ks.length 0 (0, 1) = (movO ks fs (ks.length - k) k p).map (pre ++ ·)) (hk : k < ks.length) (hq : nextAt p (ownF ks fs k) = q) (hf : fits q = false) :
    movO ks fs ks.length 0 (0, 1) = none := by
  rw [h, show ks.length - k = (ks.length - (k + 1)) + 1 by omega, movO_none hq hf]; rfl
theorem grown_set (W : World) (p : Addr) (v : Value) : W.grownBy (W.setCell p v) (some p.block) :=
  ⟨rfl, rfl, rfl, by simp [World.setCell], fun k _ hk => Below.heap_setCell _ _ _ k (fun e => hk (by rw [e]))⟩
theorem owns_set {W : World} {B : Nat} {e : TypeId} {k n : Nat} {v x : Value} {xs : List Value} {p : Addr} (h : W.ownsRow B e k v n xs) (hp : p.block < B) : (W.setCell p x).ownsRow B e k v n xs :=
  h.kept (grown_set W p x) (.inr (fun e => by have := (h.lt _ e).1; omega))
end
section
open Go.RowKit

theorem fracs0 (l : List (Int × Int)) (i : Nat) : fracs l (i * 2) = .int .i64 (fg l i).1 := by
  unfold fracs; rw [if_pos (by omega), show i * 2 / 2 = i by omega]
theorem fracs1 (l : List (Int × Int)) (i : Nat) : fracs l (i * 2 + 1) = .int .i64 (fg l i).2 := by
  unfold fracs; rw [if_neg (by omega), show (i * 2 + 1) / 2 = i by omega]
end
section
open Go.RowKit

theorem two_fresh (w : World) (x y : Int) (T : TypeId) {B : Nat} (hB : w.heap.size = B) : Reads (w.alloc (.cells #[.int .i64 x, .int .i64 y] T)) (some ⟨B, 0, none⟩) 2 (ints [x, y]) :=
  Reads.fresh w _ _ _ _ 2 hB (fun i hi => by
    match i, hi with
    | 0, _ => rfl
    | 1, _ => rfl
    | n + 2, h => exact absurd h (by omega))
end
section
open Go.ChangeShapes Go.WideShapes Go.ChangeAt Go.RowKit

theorem own : ownKnob Tryz.prog.godebug = none := by kernel_rfl
theorem laidOut : laidOutB Tryz.prog = true := by kernel_rfl

theorem cell_int {P : Program} {w : World} {r : Reach} {base : Nat} {t : TypeId} {v : Value} (ht : P.underlying t = some (.int .i64)) (h : Cell.okWide P w r base t v) : ∃ n, v = .int .i64 n := by
  simp only [Cell.okWide, ht] at h
  cases v <;> simp_all [Cell.ok]
theorem cell_bool {P : Program} {w : World} {r : Reach} {base : Nat} {t : TypeId} {v : Value} (ht : P.underlying t = some .bool) (h : Cell.okWide P w r base t v) : ∃ b, v = .bool b := by
  simp only [Cell.okWide, ht] at h
  cases v <;> simp_all [Cell.ok]
theorem row_at {P : Program} {w : World} {r : Reach} {base : Nat} {t : TypeId} {cs : Array Value} (ts : List TypeId) (ht : P.cellTypes P.depth t = some ts) (h : Row.okWide P w r base t cs) {i : Nat} {v : Value} (hi : i < ts.length) (hv : cs[i]? = some v) :
    ∃ u, ts[i]? = some u ∧ Cell.okWide P w r base u v := by
  obtain ⟨ts', ht', _, hc⟩ := h
  rw [ht] at ht'
  cases ht'
  obtain ⟨u, hu, hk⟩ := hc i v hv
  rw [Nat.mod_eq_of_lt hi] at hu
  exact ⟨u, hu, hk⟩

theorem cell_lt {w : World} {a : Addr} {v : Value} (h : w.cell? a = some v) : a.block < w.heap.size := by
  unfold World.cell? at h
  split at h
  · rename_i hb; exact (Array.getElem?_eq_some_iff.1 hb).1
  · cases h
end
section
open Go.ChangeShapes Go.WideShapes Go.ChangeAt Go.RowKit

theorem arr2 {cs : Array Value} (h : cs.size = 2) : ∃ a b, cs = #[a, b] := by
  obtain ⟨l⟩ := cs
  match l, h with
  | [a, b], _ => exact ⟨a, b, rfl⟩
end
section
open Go.RowKit

/-- Is a fraction in lowest terms, with Den above 0? -/
def lowB (n m : Int) : Bool := decide (0 < m) && ((Int.gcd n m : Nat) : Int) == 1
end
section
open Go.RowKit

/-- The sum of the forces from a node on, up to another. -/
def upTo (fs : List Int) (n : Nat) : Nat → Int
  | 0 => 0
  | j + 1 => upTo fs n j + gi fs (n + j)
end
section
open Go.RowKit

/-- The number of digits, the lowest one first. -/
def val : List Int → Int
  | [] => 0
  | d :: l => d + 1000000000 * val l
/-- Digits. -/
def Dig (l : List Int) : Prop := ∀ d ∈ l, 0 ≤ d ∧ d < 1000000000
theorem Dig.nil : Dig [] := fun d h => by cases h
theorem Dig.cons {d : Int} {l : List Int} (h1 : 0 ≤ d) (h2 : d < 1000000000) (h : Dig l) : Dig (d :: l) := fun e he => by
  rcases List.mem_cons.1 he with rfl | he
  · exact ⟨h1, h2⟩
  · exact h e he
theorem Dig.tail {d : Int} {l : List Int} (h : Dig (d :: l)) : Dig l := fun e he => h e (List.mem_cons_of_mem _ he)
theorem Dig.head {d : Int} {l : List Int} (h : Dig (d :: l)) : 0 ≤ d ∧ d < 1000000000 := h d (List.mem_cons_self ..)
theorem Dig.at {l : List Int} (h : Dig l) (k : Nat) : 0 ≤ gi l k ∧ gi l k < 1000000000 := by
  by_cases hk : k < l.length
  · rw [gi_lt hk]; exact h _ (List.getElem_mem hk)
  · have : gi l k = 0 := by
      unfold gi
      rw [List.getD_eq_getElem?_getD, List.getElem?_eq_none (by omega)]
      rfl
    omega
theorem Dig.take {l : List Int} (h : Dig l) (n : Nat) : Dig (l.take n) := fun d hd => h d (List.mem_of_mem_take hd)
theorem Dig.append {l m : List Int} (h : Dig l) (h' : Dig m) : Dig (l ++ m) := fun d hd => by
  rcases List.mem_append.1 hd with hd | hd
  · exact h d hd
  · exact h' d hd
theorem val_nonneg : ∀ {l : List Int}, Dig l → 0 ≤ val l
  | [], _ => Int.le_refl 0
  | d :: l, h => by
    have h1 := val_nonneg h.tail
    have h2 := h.head
    unfold val
    omega

/-- The digits of a number. -/
def digs (n : Nat) : List Int := if h : n = 0 then [] else ((n % 1000000000 : Nat) : Int) :: digs (n / 1000000000)
termination_by n
decreasing_by exact Nat.div_lt_self (by omega) (by decide)
theorem digs_zero : digs 0 = [] := by rw [digs]; simp
theorem digs_pos {n : Nat} (h : n ≠ 0) : digs n = ((n % 1000000000 : Nat) : Int) :: digs (n / 1000000000) := by rw [digs]; simp [h]
theorem digs_dig (n : Nat) : Dig (digs n) := by
  induction n using Nat.strongRecOn with
  | ind n ih =>
    by_cases h : n = 0
    · subst h; rw [digs_zero]; exact Dig.nil
    · rw [digs_pos h]
      exact Dig.cons (by omega) (by omega) (ih _ (Nat.div_lt_self (by omega) (by decide)))
theorem val_digs (n : Nat) : val (digs n) = n := by
  induction n using Nat.strongRecOn with
  | ind n ih =>
    by_cases h : n = 0
    · subst h; rw [digs_zero]; rfl
    · rw [digs_pos h]
      unfold val
      rw [ih _ (Nat.div_lt_self (by omega) (by decide))]
      omega
theorem digs_nil {n : Nat} (h : digs n = []) : n = 0 := by
  have := val_digs n
  rw [h] at this
  have e : val [] = 0 := rfl
  omega

/-- No zero at the end. -/
def NoZ (l : List Int) : Prop := l = [] ∨ gi l (l.length - 1) ≠ 0
theorem NoZ.tail {d : Int} {l : List Int} (h : NoZ (d :: l)) : NoZ l := by
  rcases l with _ | ⟨e, l⟩
  · exact .inl rfl
  · refine .inr ?_
    rcases h with h | h
    · cases h
    · exact h
theorem canon_eq : ∀ {l : List Int}, Dig l → NoZ l → l = digs (val l).toNat
  | [], _, _ => by rw [show (val []).toNat = 0 from rfl, digs_zero]
  | d :: l, hd, hz => by
    have ih := canon_eq hd.tail hz.tail
    have h1 := hd.head
    have h2 := val_nonneg hd.tail
    have hn : (val (d :: l)).toNat ≠ 0 := by
      intro h0
      have h3 : val (d :: l) = d + 1000000000 * val l := rfl
      have h4 : d = 0 ∧ val l = 0 := by omega
      have h5 : l = [] := by rw [ih, h4.2]; exact digs_zero
      subst h5
      rcases hz with h | h
      · cases h
      · exact h h4.1
    rw [digs_pos hn]
    have h3 : val (d :: l) = d + 1000000000 * val l := rfl
    have e1 : (((val (d :: l)).toNat % 1000000000 : Nat) : Int) = d := by omega
    have e2 : (val (d :: l)).toNat / 1000000000 = (val l).toNat := by omega
    rw [e1, e2, ← ih]
theorem digs_noz (n : Nat) : NoZ (digs n) := by
  induction n using Nat.strongRecOn with
  | ind n ih =>
    by_cases h : n = 0
    · subst h; exact .inl digs_zero
    · have ih' := ih _ (Nat.div_lt_self (n := n) (by omega) (show 1 < 1000000000 by decide))
      rw [digs_pos h]
      refine .inr ?_
      rcases ih' with h1 | h1
      · rw [h1]
        have := digs_nil h1
        show ((n % 1000000000 : Nat) : Int) ≠ 0
        omega
      · intro h2
        apply h1
        have hl : digs (n / 1000000000) ≠ [] := by
          intro h3; rw [h3] at h1; exact h1 rfl
        obtain ⟨e, t, he⟩ := List.exists_cons_of_ne_nil hl
        rw [he] at h2 ⊢
        exact h2

theorem val_append : ∀ (l m : List Int), val (l ++ m) = val l + 1000000000 ^ l.length * val m
  | [], m => by simp [val]
  | d :: l, m => by
    rw [List.cons_append]
    show d + 1000000000 * val (l ++ m) = d + 1000000000 * val l + 1000000000 ^ (l.length + 1) * val m
    rw [val_append l m, Int.pow_succ, Int.mul_add, Int.add_assoc, Int.mul_comm (1000000000 ^ l.length) 1000000000, Int.mul_assoc]
theorem val_zeros : ∀ {l : List Int}, (∀ k, k < l.length → gi l k = 0) → val l = 0
  | [], _ => rfl
  | d :: l, h => by
    have h0 : d = 0 := h 0 (by simp)
    have h1 : val l = 0 := val_zeros (fun k hk => h (k + 1) (by simpa using hk))
    unfold val
    rw [h0, h1]; rfl
theorem gi_drop_at (l : List Int) (n k : Nat) : gi (l.drop n) k = gi l (n + k) := by
  unfold gi
  rw [List.getD_eq_getElem?_getD, List.getD_eq_getElem?_getD, List.getElem?_drop]
theorem gi_take_at {l : List Int} {n k : Nat} (h : k < n) : gi (l.take n) k = gi l k := by
  unfold gi
  rw [List.getD_eq_getElem?_getD, List.getD_eq_getElem?_getD, List.getElem?_take_of_lt h]
theorem val_take {l : List Int} {n : Nat} (h : ∀ k, n ≤ k → k < l.length → gi l k = 0) : val (l.take n) = val l := by
  conv => rhs; rw [← List.take_append_drop n l, val_append]
  have : val (l.drop n) = 0 := val_zeros (fun k hk => by
    rw [gi_drop_at]
    rw [List.length_drop] at hk
    exact h _ (by omega) (by omega))
  rw [this]; simp
/-- What trimming leaves. -/
theorem trim_eq {l : List Int} (hd : Dig l) {n : Nat} (hn : n ≤ l.length) (h : ∀ k, n ≤ k → k < l.length → gi l k = 0) (h0 : n = 0 ∨ gi l (n - 1) ≠ 0) : l.take n = digs (val l).toNat := by
  rw [← val_take h]
  refine canon_eq (hd.take n) ?_
  rcases h0 with rfl | h0
  · exact .inl (by simp)
  · by_cases hz : n = 0
    · subst hz; exact .inl (by simp)
    · refine .inr ?_
      rw [List.length_take, Nat.min_eq_left hn, gi_take_at (by omega)]
      exact h0

/-- There is a place to trim at. -/
theorem trim_at (l : List Int) : ∃ m, m ≤ l.length ∧ (∀ k, m ≤ k → k < l.length → gi l k = 0) ∧ (m = 0 ∨ gi l (m - 1) ≠ 0) := by
  suffices h : ∀ n, n ≤ l.length → (∀ k, n ≤ k → k < l.length → gi l k = 0) → ∃ m, m ≤ l.length ∧ (∀ k, m ≤ k → k < l.length → gi l k = 0) ∧ (m = 0 ∨ gi l (m - 1) ≠ 0) from
    h l.length (Nat.le_refl _) (fun k h1 h2 => by omega)
  intro n
  induction n with
  | zero => intro h1 h2; exact ⟨0, h1, h2, .inl rfl⟩
  | succ n ih =>
    intro h1 h2
    by_cases hg : gi l n = 0
    · exact ih (by omega) (fun k h3 h4 => by
        by_cases hk : k = n
        · rw [hk]; exact hg
        · exact h2 k (by omega) h4)
    · exact ⟨n + 1, h1, h2, .inr hg⟩
theorem trim_ex {l : List Int} (hd : Dig l) {n : Nat} (hn : val l = n) : ∃ m, digs n = l.take m := by
  obtain ⟨m, h1, h2, h3⟩ := trim_at l
  refine ⟨m, ?_⟩
  rw [trim_eq hd h1 h2 h3, hn]; rfl
theorem val_snoc (l : List Int) (d : Int) : val (l ++ [d]) = val l + 1000000000 ^ l.length * d := by
  rw [val_append]; simp [val]
theorem val_take_succ {l : List Int} {k : Nat} (hk : k < l.length) : val (l.take (k + 1)) = val (l.take k) + 1000000000 ^ k * gi l k := by
  rw [gi_take l k hk, val_snoc, List.length_take, Nat.min_eq_left (by omega)]
theorem val_take_all {l : List Int} {k : Nat} (hk : l.length ≤ k) : val (l.take k) = val l := by rw [List.take_of_length_le hk]
theorem val_lt : ∀ {l : List Int}, Dig l → val l < 1000000000 ^ l.length
  | [], _ => by show (0 : Int) < 1; decide
  | d :: l, h => by
    have ih := val_lt h.tail
    have h1 := h.head
    rw [List.length_cons, Int.pow_succ]
    unfold val
    omega

/-- A number as the program holds it: its sign, its digits. -/
def dg (z : Int) : List Int := digs z.natAbs
theorem val_dg (z : Int) : val (dg z) = z.natAbs := val_digs _
theorem dg_dig (z : Int) : Dig (dg z) := digs_dig _
def RW (W : World) (a : Option Addr) (v : Value) (z : Int) : Prop :=
  ∃ cap, v = .agg #[.int .i64 z.sign, .slice a (dg z).length cap] ∧ (dg z).length ≤ cap ∧ Reads W a (dg z).length (ints (dg z))
theorem RW.to {W W' : World} {a : Option Addr} {v : Value} {z : Int} (h : RW W a v z) (hb : Below W.heap.size W W') : RW W' a v z := by
  obtain ⟨cap, h1, h2, h3⟩ := h
  exact ⟨cap, h1, h2, h3.to hb⟩
theorem sign_bd (z : Int) : -1 ≤ z.sign ∧ z.sign ≤ 1 := by
  rcases Int.lt_trichotomy z 0 with h | h | h
  · rw [Int.sign_eq_neg_one_of_neg h]; decide
  · rw [h]; decide
  · rw [Int.sign_eq_one_of_pos h]; decide
theorem dg_neg (z : Int) : dg (-z) = dg z := by unfold dg; rw [Int.natAbs_neg]
theorem digs_len : ∀ (k n : Nat), n < 1000000000 ^ k → (digs n).length ≤ k
  | 0, n, h => by
    have : n = 0 := by simpa using h
    rw [this, digs_zero]; simp
  | k + 1, n, h => by
    by_cases h0 : n = 0
    · rw [h0, digs_zero]; simp
    · rw [digs_pos h0, List.length_cons]
      have := digs_len k (n / 1000000000) (by rw [Nat.div_lt_iff_lt_mul (by decide)]; rw [Nat.pow_succ] at h; exact h)
      omega

/-- Where the digits of a number lie, if it has any. -/
def Loc (P : Nat → Prop) (a : Option Addr) (z : Int) : Prop := dg z ≠ [] → ∀ p, a = some p → P p.block
/-- What comes of a call: a number, whose digits lie in new memory or where an argument's do. -/
def WPost (ins : List (Option Addr × Int)) (z : Int) (w : World) (e : Ending) (w' : World) : Prop :=
  ∃ a v, e = .returned v ∧ RW w' a v z ∧ Below w.heap.size w w' ∧ ∀ P : Nat → Prop, (∀ b, w.heap.size ≤ b → P b) → (∀ i ∈ ins, Loc P i.1 i.2) → Loc P a z
theorem RW.loc {W : World} {a : Option Addr} {v : Value} {z : Int} (h : RW W a v z) : Loc (fun b => b < W.heap.size) a z := by
  obtain ⟨cap, -, -, h3⟩ := h
  intro hn p hp
  rcases h3 with h | ⟨b, off, ha, hlt, -⟩
  · exact absurd (List.length_eq_zero_iff.1 h) hn
  · rw [hp] at ha; cases ha; exact hlt
theorem RW.keep {W W' : World} {a : Option Addr} {v : Value} {z : Int} (h : RW W a v z) (hb : Reads W a (dg z).length (ints (dg z)) → Reads W' a (dg z).length (ints (dg z))) : RW W' a v z := by
  obtain ⟨cap, h1, h2, h3⟩ := h
  exact ⟨cap, h1, h2, hb h3⟩

/-- The same, where it is known where the digits lie. -/
def WAt (a : Option Addr) (z : Int) (w : World) (e : Ending) (w' : World) : Prop := ∃ v, e = .returned v ∧ RW w' a v z ∧ Below w.heap.size w w'
end
section
open Go.RowKit

theorem fr_ex {n m : Int} (hm : 0 < m) : ∃ g a b : Int, 0 < g ∧ 0 < b ∧ n = g * a ∧ m = g * b ∧ fr n m = (a, b) ∧ g = (Int.gcd n m : Nat) := by
  have h0 : 0 < Int.gcd n m := Nat.pos_of_ne_zero (fun h => by have := (Int.gcd_eq_zero_iff.1 h).2; omega)
  obtain ⟨a, ha⟩ : ((Int.gcd n m : Nat) : Int) ∣ n := Int.gcd_dvd_left ..
  obtain ⟨b, hb⟩ : ((Int.gcd n m : Nat) : Int) ∣ m := Int.gcd_dvd_right ..
  have hg : (0 : Int) < (Int.gcd n m : Nat) := by omega
  have h1 : n.tdiv ((Int.gcd n m : Nat) : Int) = a := by
    conv => lhs; arg 1; rw [ha]
    exact Int.mul_tdiv_cancel_left _ (by omega)
  have h2 : m.tdiv ((Int.gcd n m : Nat) : Int) = b := by
    conv => lhs; arg 1; rw [hb]
    exact Int.mul_tdiv_cancel_left _ (by omega)
  have hp := fr_pos (n := n) hm
  have e : fr n m = (a, b) := by unfold fr; rw [h1, h2]
  rw [e] at hp
  exact ⟨_, a, b, hg, hp, ha, hb, e, rfl⟩
theorem fr_mul {n m : Int} (hm : 0 < m) : (fr n m).1 * m = n * (fr n m).2 := by
  obtain ⟨g, a, b, -, -, h1, h2, h3, -⟩ := fr_ex (n := n) hm
  rw [h3]; subst h1 h2; grind
theorem fr_scale {n m c : Int} (hc : 0 < c) : fr (c * n) (c * m) = fr n m := by
  unfold fr
  have e : ((Int.gcd (c * n) (c * m) : Nat) : Int) = c * (Int.gcd n m : Nat) := by
    rw [Int.gcd_mul_left, Int.natCast_mul]; congr 1; omega
  rw [e, Int.mul_tdiv_mul_of_pos _ _ hc, Int.mul_tdiv_mul_of_pos _ _ hc]
theorem fr_eq {n m n' m' : Int} (hm : 0 < m) (hm' : 0 < m') (h : n * m' = n' * m) : fr n m = fr n' m' := by
  rw [← fr_scale (n := n) (m := m) hm', ← fr_scale (n := n') (m := m') hm]
  congr 1
  · grind
  · grind
/-- The force of a spring, and the sums over a common multiple of the stiffnesses. -/
def sprF (fs : List Int) (k : Nat) : Int := gi fs k + upTo fs (k + 1) (fs.length - (k + 1))
def refN (ks fs : List Int) (L : Int) : Nat → Int
  | 0 => 0
  | k + 1 => refN ks fs L k + sprF fs k * L.tdiv (gi ks k)
/-- Fractions as the reference holds them. -/
def rAdd (p q : Int × Int) : Int × Int := fr (p.1 * q.2 + q.1 * p.2) (p.2 * q.2)
def rMul (p q : Int × Int) : Int × Int := fr (p.1 * q.1) (p.2 * q.2)
structure Fq (p : Int × Int) (N D : Int) : Prop where
  d0 : 0 < p.2
  D0 : 0 < D
  eq : p.1 * D = N * p.2
theorem Fq.mk' {N D : Int} (h : 0 < D) : Fq (N, D) N D := ⟨h, h, rfl⟩
theorem Fq.add {p q : Int × Int} {N D M E : Int} (h : Fq p N D) (h' : Fq q M E) : Fq (rAdd p q) (N * E + M * D) (D * E) := by
  obtain ⟨a0, a1, a2⟩ := h
  obtain ⟨b0, b1, b2⟩ := h'
  have hpq := Int.mul_pos a0 b0
  refine ⟨fr_pos hpq, Int.mul_pos a1 b1, ?_⟩
  have hm := fr_mul (n := p.1 * q.2 + q.1 * p.2) hpq
  unfold rAdd
  generalize fr (p.1 * q.2 + q.1 * p.2) (p.2 * q.2) = s at *
  refine Int.eq_of_mul_eq_mul_left (a := p.2 * q.2) (by omega) ?_
  grind
theorem Fq.mul {p q : Int × Int} {N D M E : Int} (h : Fq p N D) (h' : Fq q M E) : Fq (rMul p q) (N * M) (D * E) := by
  obtain ⟨a0, a1, a2⟩ := h
  obtain ⟨b0, b1, b2⟩ := h'
  have hpq := Int.mul_pos a0 b0
  refine ⟨fr_pos hpq, Int.mul_pos a1 b1, ?_⟩
  have hm := fr_mul (n := p.1 * q.1) hpq
  unfold rMul
  generalize fr (p.1 * q.1) (p.2 * q.2) = s at *
  refine Int.eq_of_mul_eq_mul_left (a := p.2 * q.2) (by omega) ?_
  grind
end
section
open Go.RowKit

/-- A fraction with small parts. -/
structure SmF (p : Int × Int) : Prop where
  n0 : -1000000000 ≤ p.1
  n1 : p.1 ≤ 1000000000
  d0 : 1 ≤ p.2
  d1 : p.2 ≤ 1000000000
end
end Go.Proofs.YtbpcapcgbnbknaaGreat
