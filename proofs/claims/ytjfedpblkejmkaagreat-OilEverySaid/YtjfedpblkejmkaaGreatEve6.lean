/-
  Texts of this claim, in their build order: Lib8 E1 E2 E3 E4 E5 G1 G2 X1 X3 W1 P1 V2.
-/
import Derived.Test.YtjfedpblkejmkaaGreatEve5
import Derived.Test.YtjfedpblkejmkaaGreatEve4
import Derived.Test.YtjfedpblkejmkaaGreatEve2
import Derived.Test.YtjfedpblkejmkaaGreatRows
import Derived.ProofKit
import Derived.OpenShut
import Derived.ShutString
import Derived.ChangeOld
import Derived.Deep.Strs
import Derived.Test.YtjfedpblkejmkaaGreatEve1
import Derived.Shelf.Bits.Mul64
import Derived.Shelf.Spec.BitsCarry

/-
  A variable's box that holds a slice of the call's own, in a loop over an iterator: for any element.
-/
namespace Go.Proofs.YtjfedpblkejmkaaGreat
open Go.RowKit

/-- The box bo holds a slice of n elements, the cells xs, in memory of its own from block n0 on; M: what may be written. -/
def OutI (tS tE : TypeId) (size n0 bo : Nat) (w : World) (n : Nat) (xs : List Value) (M : Nat → Prop) (W : World) : Prop :=
  ∃ v, Boxed W bo tS v ∧ W.ownsRow n0 tE size v n xs ∧ Below n0 w W ∧ (∀ k, v.ownBlock = some k → M k) ∧ M bo ∧ (∀ k, M k → k < W.heap.size ∧ n0 ≤ k)

theorem agree_heap {B : Nat} {M : Nat → Prop} {W1 W2 : World} (h : Agree B M W1 W2) {b : Nat} {o : Obj} (hM : M b) (hb : W1.heap[b]? = some o) : W2.heap[b]? = some o :=
  (h.same b (Array.getElem?_eq_some_iff.1 hb).1 hM).trans hb
theorem OutI.agree {tS tE : TypeId} {size B n0 bo : Nat} {w : World} {n : Nat} {xs : List Value} {M : Nat → Prop} {W1 W2 : World} (h : OutI tS tE size n0 bo w n xs M W1) (hag : Agree B M W1 W2) (hB : n0 ≤ B) : OutI tS tE size n0 bo w n xs M W2 := by
  obtain ⟨v, hv, hr, hb, hvm, hbm, hm⟩ := h
  refine ⟨v, agree_heap hag hbm hv, ⟨hr.1, ?_⟩, hb.trans (hag.below.mono hB), hvm, hbm, fun k hk => ⟨Nat.lt_of_lt_of_le (hm k hk).1 hag.size, (hm k hk).2⟩⟩
  rcases hr.2 with hn | ⟨g, cap, cur, rfl, hbg, hg, rest⟩
  · exact .inl hn
  · exact .inr ⟨g, cap, cur, rfl, hbg, agree_heap hag (hvm g rfl) hg, rest⟩
/-- The cells of an owned row, whatever their size. -/
theorem Reads.of_row {W : World} {n₀ : Nat} {e : TypeId} {size : Nat} {v : Value} {n : Nat} {xs : List Value} {f : Nat → Value} (h : W.ownsRow n₀ e size v n xs) (hf : ∀ i, i < n * size → xs[i]? = some (f i)) :
    ∃ a cap, v = .slice a n cap ∧ n ≤ cap ∧ Reads W a (n * size) f ∧ (∀ p, a = some p → n₀ ≤ p.block) := by
  rcases h.2 with ⟨rfl, h0⟩ | ⟨g, cap, cur, rfl, hb, hg, hn, hc, hs, ht⟩
  · exact ⟨none, 0, by rw [h0], by omega, .inl (by rw [h0, Nat.zero_mul]), fun p hp => by cases hp⟩
  · refine ⟨_, cap, rfl, hn, .inr ⟨g, 0, rfl, (Array.getElem?_eq_some_iff.1 hg).1, fun i hi => ?_⟩, fun p hp => by cases hp; exact hb⟩
    have hcell := World.ownsRow.cellAt (w := W) (base := n₀) (e := e) (size := size) (g := g) (cap := cap) h i hi
    rw [Nat.zero_add, hcell]
    exact hf i hi

theorem boxedTo {W W' : World} {B : Nat} {t : TypeId} {v : Value} (h : Boxed W B t v) (hb : Below W.heap.size W W') : Boxed W' B t v := (hb.block B h.lt).trans h
theorem upd_app {W w1 : World} {n₀ B : Nat} {e : TypeId} {size : Nat} {v v' : Value} {m : Nat} {ys : List Value} {M : Nat → Prop}
    (hM : ∀ k, M k → k < W.heap.size) (hMB : M B) (hMv : ∀ k, v.ownBlock = some k → M k)
    (hown' : w1.ownsRow n₀ e size v' m ys) (hgrow : W.grownBy w1 v.ownBlock) (hwhere : v'.ownBlock = v.ownBlock ∨ v'.ownBlock = some W.heap.size) :
    Upd M (fun k => M k ∨ v'.ownBlock = some k) W (w1.setCell ⟨B, 0, none⟩ v') := by
  have hsz := hgrow.size
  have hss : (w1.setCell ⟨B, 0, none⟩ v').heap.size = w1.heap.size := by simp [World.setCell]
  refine ⟨hgrow.os, hgrow.tape, hgrow.output, by omega, fun k hk hm => ?_, fun k hk => ?_, fun k hk => ?_⟩
  · rw [Below.heap_setCell _ _ _ _ (show k ≠ B from fun e => hm (by rw [e]; exact hMB)), hgrow.block k hk (fun e => hm (hMv k e.symm))]
  · rcases hk with hk | hk
    · exact .inl hk
    · rcases hwhere with h | h
      · exact .inl (hMv k (h ▸ hk))
      · rw [h] at hk; cases hk; exact .inr (Nat.le_refl _)
  · rw [hss]
    rcases hk with hk | hk
    · have := hM k hk; omega
    · exact (hown'.lt k hk).2
theorem Blk.news {W : World} {b : Nat} {cs : Array Value} (h : Blk W b cs) : ∀ j u, cs.toList[j]? = some u → W.cell? ((⟨b, 0, none⟩ : Addr).add j) = some u := by
  intro j u hj
  have e : (⟨b, 0, none⟩ : Addr).add j = ⟨b, j, none⟩ := by unfold Addr.add; split <;> simp_all
  rw [e, h.2.1 j, ← hj, Array.getElem?_toList]

/-- A box's slice has been appended to, and stored: the box holds the longer one. -/
theorem OutI.app {tS tE : TypeId} {size n0 bo : Nat} {w W W1 w4 : World} {n m : Nat} {xs ys : List Value} {M : Nat → Prop} {v v' : Value} (hte : tS ≠ tE)
    (hv : Boxed W bo tS v) (hrow : W.ownsRow n0 tE size v n xs) (hb : Below n0 w W) (hvm : ∀ k, v.ownBlock = some k → M k) (hbm : M bo) (hfit : ∀ k, M k → k < W.heap.size ∧ n0 ≤ k)
    (h1 : Below W.heap.size W W1) (hown' : w4.ownsRow n0 tE size v' m ys) (hgrow : W1.grownBy w4 v.ownBlock) (hwhere : v'.ownBlock = v.ownBlock ∨ v'.ownBlock = some W1.heap.size) :
    ∃ M', OutI tS tE size n0 bo w m ys M' (w4.setCell ⟨bo, 0, none⟩ v') ∧ Upd M M' W (w4.setCell ⟨bo, 0, none⟩ v') := by
  have hv1 := (boxedTo hv h1).kept hgrow (hv.not_row hte hrow)
  have hu1 := Upd.of_below (fun k hk => (hfit k hk).1) h1
  have hu2 := upd_app hu1.fit hbm hvm hown' hgrow hwhere
  have hu := hu1.trans hu2
  refine ⟨_, ⟨v', hv1.set _, ?_, hb.trans (hu.below (by have := hrow; have := (hfit bo hbm); omega) (fun k hk => (hfit k hk).2)), fun k hk => .inr hk, .inl hbm, fun k hk => ⟨hu.fit k hk, ?_⟩⟩, hu⟩
  · exact hown'.kept (grownBy_setCell' w4 bo _) (.inr (hv1.not_row hte hown').symm)
  · rcases hk with hk | hk
    · exact (hfit k hk).2
    · exact (hown'.lt k hk).1

end Go.Proofs.YtjfedpblkejmkaaGreat

/-
  divisor, fraction and sum of package hybrid.
-/
namespace Go.Proofs.YtjfedpblkejmkaaGreat
open Go.RowKit

/-- A fraction in lowest terms. -/
def fr (n m : Int) : Int × Int := (n.tdiv (Int.gcd n m : Nat), m.tdiv (Int.gcd n m : Nat))
theorem tdivB {n g : Int} {B : Nat} (h : n.natAbs ≤ B) : (n.tdiv g).natAbs ≤ B := by
  rw [Int.natAbs_tdiv]; exact Nat.le_trans (Nat.div_le_self _ _) h
theorem fr_pos {n m : Int} (hm : 0 < m) : 0 < (fr n m).2 := by
  unfold fr
  have h1 : 0 < Int.gcd n m := Nat.pos_of_ne_zero (fun h => by have := (Int.gcd_eq_zero_iff.1 h).2; omega)
  have h2 : ((Int.gcd n m : Nat) : Int) ∣ m := Int.gcd_dvd_right ..
  obtain ⟨c, hc⟩ := h2
  have h3 : m.tdiv ((Int.gcd n m : Nat) : Int) = c := by
    conv => lhs; arg 1; rw [hc]
    exact Int.mul_tdiv_cancel_left _ (by omega)
  show 0 < m.tdiv ((Int.gcd n m : Nat) : Int)
  rw [h3]
  rcases Int.lt_or_le 0 c with h | h
  · exact h
  · have : ((Int.gcd n m : Nat) : Int) * c ≤ 0 := Int.mul_nonpos_of_nonneg_of_nonpos (by omega) h
    omega
theorem fr_bd1 {n m : Int} {B : Nat} (h : n.natAbs ≤ B) : (fr n m).1.natAbs ≤ B := tdivB h
theorem fr_bd2 {n m : Int} {B : Nat} (h : m.natAbs ≤ B) : (fr n m).2.natAbs ≤ B := tdivB h

end Go.Proofs.YtjfedpblkejmkaaGreat

/-
  CheckChain and chainErr of package hybrid.
-/
namespace Go.Proofs.YtjfedpblkejmkaaGreat
open Go.RowKit

/-- The error of a node. -/
def nodE (ks fs : List Int) (k : Nat) : Int := unl ((decide (1 ≤ gi ks k) && decide (gi ks k ≤ 20)) && (decide (-1000 ≤ gi fs k) && decide (gi fs k ≤ 1000))) 2
def chE0 (ks fs : List Int) : Int := firstE [unl (decide ((0 : Int) < ks.length) && ((fs.length : Int) == ks.length)) 10, unl (decide ((ks.length : Int) ≤ 6)) 8]
def chkC (ks fs : List Int) : Int × Int := if chE0 ks fs = 0 then eachR (nodE ks fs) 0 ks.length else (0, chE0 ks fs)
/-- A chain as a value. -/
abbrev chV (a1 : Option Addr) (n1 c1 : Nat) (a2 : Option Addr) (n2 c2 : Nat) : Array Value := #[.slice a1 n1 c1, .slice a2 n2 c2]

end Go.Proofs.YtjfedpblkejmkaaGreat

/-
  moved and MovedOf of package hybrid.
-/
namespace Go.Proofs.YtjfedpblkejmkaaGreat
open Go.RowKit

/-- The displacement at a node, out of the one below and what its own spring adds. -/
def ownF (ks fs : List Int) (k : Nat) : Int × Int := fr (fs.drop k).sum (gi ks k)
def nextAt (p q : Int × Int) : Int × Int :=
  fr (p.1 * q.2.tdiv (Int.gcd p.2 q.2 : Nat) + q.1 * p.2.tdiv (Int.gcd p.2 q.2 : Nat)) (p.2.tdiv (Int.gcd p.2 q.2 : Nat) * q.2)
def fits (p : Int × Int) : Bool := (decide (-1000000000 ≤ p.1) && decide (p.1 ≤ 1000000000)) && decide (p.2 ≤ 1000000000)
def movO (ks fs : List Int) : Nat → Nat → Int × Int → Option (List (Int × Int))
  | 0, _, _ => some []
  | n + 1, k, p => if fits (nextAt p (ownF ks fs k)) then (movO ks fs n (k + 1) (nextAt p (ownF ks fs k))).map (nextAt p (ownF ks fs k) :: ·) else none
def fcells (l : List (Int × Int)) : List Value := l.flatMap fun p => [.int .i64 p.1, .int .i64 p.2]
def fg (l : List (Int × Int)) (i : Nat) : Int × Int := l.getD i (0, 0)
def fracs (l : List (Int × Int)) (j : Nat) : Value := .int .i64 (if j % 2 = 0 then (fg l (j / 2)).1 else (fg l (j / 2)).2)

theorem fcells_len (l : List (Int × Int)) : (fcells l).length = l.length * 2 := by
  induction l with
  | nil => rfl
  | cons p l ih => simp only [fcells, List.flatMap_cons, List.length_append, List.length_cons, List.length_nil] at *; omega
theorem fcells_get : ∀ (l : List (Int × Int)) (i : Nat), i < l.length * 2 → (fcells l)[i]? = some (fracs l i)
  | [], i, h => by simp at h
  | p :: l, i, h => by
    have hm : fcells (p :: l) = .int .i64 p.1 :: .int .i64 p.2 :: fcells l := rfl
    rw [hm]
    match i with
    | 0 => rfl
    | 1 => rfl
    | i + 2 =>
      simp only [List.getElem?_cons_succ]
      rw [fcells_get l i (by simp only [List.length_cons] at h; omega)]
      unfold fracs
      rw [show (i + 2) / 2 = i / 2 + 1 by omega, show (i + 2) % 2 = i % 2 by omega]
      rfl

/-- A valid chain. -/
structure ChOk (ks fs : List Int) : Prop where
  len : fs.length = ks.length
  few : ks.length ≤ 6
  k1 : ∀ k, k < ks.length → 1 ≤ gi ks k ∧ gi ks k ≤ 20
  f1 : ∀ k, k < ks.length → -1000 ≤ gi fs k ∧ gi fs k ≤ 1000
/-- What stands at the head of a round. -/
structure MovSt (ks fs : List Int) (a1 a2 : Option Addr) (c1 c2 : Nat) (w : World) (k : Nat) (v : Value) (p : Int × Int) (pre : List (Int × Int)) (wr : World) : Prop where
  hk : k ≤ ks.length
  chain : Blk wr w.heap.size (chV a1 ks.length c1 a2 ks.length c2)
  here : Blk wr (w.heap.size + 1) #[.int .i64 p.1, .int .i64 p.2]
  own : wr.ownsRow (w.heap.size + 2) 28 2 v pre.length (fcells pre)
  bel : Below w.heap.size w wr
  eq : movO ks fs ks.length 0 (0, 1) = (movO ks fs (ks.length - k) k p).map (pre ++ ·)
  len : pre.length = k
  n1 : p.1.natAbs ≤ 1000000000
  d0 : 0 < p.2
  d1 : p.2 ≤ 1000000000

theorem movO_none {ks fs : List Int} {n k : Nat} {p q : Int × Int} (hq : nextAt p (ownF ks fs k) = q) (hf : fits q = false) : movO ks fs (n + 1) k p = none := by
  subst hq; rw [movO, if_neg (by rw [hf]; simp)]
theorem MovSt.stop {ks fs : List Int} {k : Nat} {p q : Int × Int} {pre : List (Int × Int)} (h : movO ks fs ks.length 0 (0, 1) = (movO ks fs (ks.length - k) k p).map (pre ++ ·)) (hk : k < ks.length) (hq : nextAt p (ownF ks fs k) = q) (hf : fits q = false) :
    movO ks fs ks.length 0 (0, 1) = none := by
  rw [h, show ks.length - k = (ks.length - (k + 1)) + 1 by omega, movO_none hq hf]; rfl
theorem grown_set (W : World) (p : Addr) (v : Value) : W.grownBy (W.setCell p v) (some p.block) :=
  ⟨rfl, rfl, rfl, by simp [World.setCell], fun k _ hk => Below.heap_setCell _ _ _ k (fun e => hk (by rw [e]))⟩
theorem owns_set {W : World} {B : Nat} {e : TypeId} {k n : Nat} {v x : Value} {xs : List Value} {p : Addr} (h : W.ownsRow B e k v n xs) (hp : p.block < B) : (W.setCell p x).ownsRow B e k v n xs :=
  h.kept (grown_set W p x) (.inr (fun e => by have := (h.lt _ e).1; omega))

end Go.Proofs.YtjfedpblkejmkaaGreat

/-
  Fracs of package ductilitybase; lists of fractions.
-/
namespace Go.Proofs.YtjfedpblkejmkaaGreat
open Go.RowKit

theorem fracs0 (l : List (Int × Int)) (i : Nat) : fracs l (i * 2) = .int .i64 (fg l i).1 := by
  unfold fracs; rw [if_pos (by omega), show i * 2 / 2 = i by omega]
theorem fracs1 (l : List (Int × Int)) (i : Nat) : fracs l (i * 2 + 1) = .int .i64 (fg l i).2 := by
  unfold fracs; rw [if_neg (by omega), show (i * 2 + 1) / 2 = i by omega]
end Go.Proofs.YtjfedpblkejmkaaGreat

/-
  The examples of chapter 8: Test, Messages, Chain; what the program answers to them.
-/
namespace Go.Proofs.YtjfedpblkejmkaaGreat
open Go.RowKit

theorem two_fresh (w : World) (x y : Int) (T : TypeId) {B : Nat} (hB : w.heap.size = B) : Reads (w.alloc (.cells #[.int .i64 x, .int .i64 y] T)) (some ⟨B, 0, none⟩) 2 (ints [x, y]) :=
  Reads.fresh w _ _ _ _ 2 hB (fun i hi => by
    match i, hi with
    | 0, _ => rfl
    | 1, _ => rfl
    | n + 2, h => exact absurd h (by omega))

theorem three_fresh (w : World) (x y z : Int) (T : TypeId) {B : Nat} (hB : w.heap.size = B) : Reads (w.alloc (.cells #[.int .i64 x, .int .i64 y, .int .i64 z] T)) (some ⟨B, 0, none⟩) 3 (ints [x, y, z]) :=
  Reads.fresh w _ _ _ _ 3 hB (fun i hi => by
    match i, hi with
    | 0, _ => rfl
    | 1, _ => rfl
    | 2, _ => rfl
    | n + 3, h => exact absurd h (by omega))
end Go.Proofs.YtjfedpblkejmkaaGreat

/-
  The arguments of a statement, opened: a test; a slice of whole numbers.
-/
namespace Go.Proofs.YtjfedpblkejmkaaGreat
open Go.ChangeShapes Go.WideShapes Go.ChangeAt Go.RowKit

theorem own : ownKnob Tryz.prog.godebug = none := by kernel_rfl
theorem laidOut : laidOutB Tryz.prog = true := by kernel_rfl

theorem cell_int {P : Program} {w : World} {r : Reach} {base : Nat} {t : TypeId} {v : Value} (ht : P.underlying t = some (.int .i64)) (h : Cell.okWide P w r base t v) : ∃ n, v = .int .i64 n := by
  simp only [Cell.okWide, ht] at h
  cases v <;> simp_all [Cell.ok]
theorem cell_bool {P : Program} {w : World} {r : Reach} {base : Nat} {t : TypeId} {v : Value} (ht : P.underlying t = some .bool) (h : Cell.okWide P w r base t v) : ∃ b, v = .bool b := by
  simp only [Cell.okWide, ht] at h
  cases v <;> simp_all [Cell.ok]
theorem row_at {P : Program} {w : World} {r : Reach} {base : Nat} {t : TypeId} {cs : Array Value} (ts : List TypeId) (ht : P.cellTypes P.depth t = some ts) (h : Row.okWide P w r base t cs) {i : Nat} {v : Value} (hi : i < ts.length) (hv : cs[i]? = some v) :
    ∃ u, ts[i]? = some u ∧ Cell.okWide P w r base u v := by
  obtain ⟨ts', ht', _, hc⟩ := h
  rw [ht] at ht'
  cases ht'
  obtain ⟨u, hu, hk⟩ := hc i v hv
  rw [Nat.mod_eq_of_lt hi] at hu
  exact ⟨u, hu, hk⟩

theorem cell_lt {w : World} {a : Addr} {v : Value} (h : w.cell? a = some v) : a.block < w.heap.size := by
  unfold World.cell? at h
  split at h
  · rename_i hb; exact (Array.getElem?_eq_some_iff.1 hb).1
  · cases h

end Go.Proofs.YtjfedpblkejmkaaGreat

/-
  The arguments of a statement, opened: a clock; messages.
-/
namespace Go.Proofs.YtjfedpblkejmkaaGreat
open Go.ChangeShapes Go.WideShapes Go.ChangeAt Go.RowKit

theorem arr2 {cs : Array Value} (h : cs.size = 2) : ∃ a b, cs = #[a, b] := by
  obtain ⟨l⟩ := cs
  match l, h with
  | [a, b], _ => exact ⟨a, b, rfl⟩

end Go.Proofs.YtjfedpblkejmkaaGreat

/-
  Contracts of the base: Gcd, Lowest.
-/
namespace Go.Proofs.YtjfedpblkejmkaaGreat
open Go.RowKit

/-- Is a fraction in lowest terms, with Den above 0? -/
def lowB (n m : Int) : Bool := decide (0 < m) && ((Int.gcd n m : Nat) : Int) == 1

end Go.Proofs.YtjfedpblkejmkaaGreat

/-
  Contracts of the reference of chains: Above.
-/
namespace Go.Proofs.YtjfedpblkejmkaaGreat
open Go.RowKit

/-- The sum of the forces from a node on, up to another. -/
def upTo (fs : List Int) (n : Nat) : Nat → Int
  | 0 => 0
  | j + 1 => upTo fs n j + gi fs (n + j)
end Go.Proofs.YtjfedpblkejmkaaGreat

/-
  Numbers as digits to the base 10^9: the plain law.
-/
namespace Go.Proofs.YtjfedpblkejmkaaGreat
open Go.RowKit

/-- Digits. -/
def Dig (l : List Int) : Prop := ∀ d ∈ l, 0 ≤ d ∧ d < 1000000000
theorem Dig.nil : Dig [] := fun d h => by cases h
theorem Dig.tail {d : Int} {l : List Int} (h : Dig (d :: l)) : Dig l := fun e he => h e (List.mem_cons_of_mem _ he)
theorem Dig.at {l : List Int} (h : Dig l) (k : Nat) : 0 ≤ gi l k ∧ gi l k < 1000000000 := by
  by_cases hk : k < l.length
  · rw [gi_lt hk]; exact h _ (List.getElem_mem hk)
  · have : gi l k = 0 := by
      unfold gi
      rw [List.getD_eq_getElem?_getD, List.getElem?_eq_none (by omega)]
      rfl
    omega
theorem Dig.take {l : List Int} (h : Dig l) (n : Nat) : Dig (l.take n) := fun d hd => h d (List.mem_of_mem_take hd)
theorem Dig.append {l m : List Int} (h : Dig l) (h' : Dig m) : Dig (l ++ m) := fun d hd => by
  rcases List.mem_append.1 hd with hd | hd
  · exact h d hd
  · exact h' d hd
/-- The digits of a number. -/
def digs (n : Nat) : List Int := if h : n = 0 then [] else ((n % 1000000000 : Nat) : Int) :: digs (n / 1000000000)
termination_by n
decreasing_by exact Nat.div_lt_self (by omega) (by decide)
theorem digs_zero : digs 0 = [] := by rw [digs]; simp
/-- No zero at the end. -/
def NoZ (l : List Int) : Prop := l = [] ∨ gi l (l.length - 1) ≠ 0
theorem NoZ.tail {d : Int} {l : List Int} (h : NoZ (d :: l)) : NoZ l := by
  rcases l with _ | ⟨e, l⟩
  · exact .inl rfl
  · refine .inr ?_
    rcases h with h | h
    · cases h
    · exact h
/-- A number as the program holds it: its sign, its digits. -/
def dg (z : Int) : List Int := digs z.natAbs
def RW (W : World) (a : Option Addr) (v : Value) (z : Int) : Prop :=
  ∃ cap, v = .agg #[.int .i64 z.sign, .slice a (dg z).length cap] ∧ (dg z).length ≤ cap ∧ Reads W a (dg z).length (ints (dg z))
theorem RW.to {W W' : World} {a : Option Addr} {v : Value} {z : Int} (h : RW W a v z) (hb : Below W.heap.size W W') : RW W' a v z := by
  obtain ⟨cap, h1, h2, h3⟩ := h
  exact ⟨cap, h1, h2, h3.to hb⟩
/-- Where the digits of a number lie, if it has any. -/
def Loc (P : Nat → Prop) (a : Option Addr) (z : Int) : Prop := dg z ≠ [] → ∀ p, a = some p → P p.block
theorem RW.keep {W W' : World} {a : Option Addr} {v : Value} {z : Int} (h : RW W a v z) (hb : Reads W a (dg z).length (ints (dg z)) → Reads W' a (dg z).length (ints (dg z))) : RW W' a v z := by
  obtain ⟨cap, h1, h2, h3⟩ := h
  exact ⟨cap, h1, h2, hb h3⟩

end Go.Proofs.YtjfedpblkejmkaaGreat

/-
  Chains: the plain laws. The displacements over a common multiple; the stiffness; a node's balance as an equation of fractions.
-/
namespace Go.Proofs.YtjfedpblkejmkaaGreat
open Go.RowKit

theorem fr_ex {n m : Int} (hm : 0 < m) : ∃ g a b : Int, 0 < g ∧ 0 < b ∧ n = g * a ∧ m = g * b ∧ fr n m = (a, b) ∧ g = (Int.gcd n m : Nat) := by
  have h0 : 0 < Int.gcd n m := Nat.pos_of_ne_zero (fun h => by have := (Int.gcd_eq_zero_iff.1 h).2; omega)
  obtain ⟨a, ha⟩ : ((Int.gcd n m : Nat) : Int) ∣ n := Int.gcd_dvd_left ..
  obtain ⟨b, hb⟩ : ((Int.gcd n m : Nat) : Int) ∣ m := Int.gcd_dvd_right ..
  have hg : (0 : Int) < (Int.gcd n m : Nat) := by omega
  have h1 : n.tdiv ((Int.gcd n m : Nat) : Int) = a := by
    conv => lhs; arg 1; rw [ha]
    exact Int.mul_tdiv_cancel_left _ (by omega)
  have h2 : m.tdiv ((Int.gcd n m : Nat) : Int) = b := by
    conv => lhs; arg 1; rw [hb]
    exact Int.mul_tdiv_cancel_left _ (by omega)
  have hp := fr_pos (n := n) hm
  have e : fr n m = (a, b) := by unfold fr; rw [h1, h2]
  rw [e] at hp
  exact ⟨_, a, b, hg, hp, ha, hb, e, rfl⟩
theorem fr_mul {n m : Int} (hm : 0 < m) : (fr n m).1 * m = n * (fr n m).2 := by
  obtain ⟨g, a, b, -, -, h1, h2, h3, -⟩ := fr_ex (n := n) hm
  rw [h3]; subst h1 h2; grind
theorem fr_scale {n m c : Int} (hc : 0 < c) : fr (c * n) (c * m) = fr n m := by
  unfold fr
  have e : ((Int.gcd (c * n) (c * m) : Nat) : Int) = c * (Int.gcd n m : Nat) := by
    rw [Int.gcd_mul_left, Int.natCast_mul]; congr 1; omega
  rw [e, Int.mul_tdiv_mul_of_pos _ _ hc, Int.mul_tdiv_mul_of_pos _ _ hc]
theorem fr_eq {n m n' m' : Int} (hm : 0 < m) (hm' : 0 < m') (h : n * m' = n' * m) : fr n m = fr n' m' := by
  rw [← fr_scale (n := n) (m := m) hm', ← fr_scale (n := n') (m := m') hm]
  congr 1
  · grind
  · grind
/-- The force of a spring, and the sums over a common multiple of the stiffnesses. -/
def sprF (fs : List Int) (k : Nat) : Int := gi fs k + upTo fs (k + 1) (fs.length - (k + 1))
def refN (ks fs : List Int) (L : Int) : Nat → Int
  | 0 => 0
  | k + 1 => refN ks fs L k + sprF fs k * L.tdiv (gi ks k)
/-- Fractions as the reference holds them. -/
def rAdd (p q : Int × Int) : Int × Int := fr (p.1 * q.2 + q.1 * p.2) (p.2 * q.2)
def rMul (p q : Int × Int) : Int × Int := fr (p.1 * q.1) (p.2 * q.2)
structure Fq (p : Int × Int) (N D : Int) : Prop where
  d0 : 0 < p.2
  D0 : 0 < D
  eq : p.1 * D = N * p.2
theorem Fq.mk' {N D : Int} (h : 0 < D) : Fq (N, D) N D := ⟨h, h, rfl⟩
theorem Fq.add {p q : Int × Int} {N D M E : Int} (h : Fq p N D) (h' : Fq q M E) : Fq (rAdd p q) (N * E + M * D) (D * E) := by
  obtain ⟨a0, a1, a2⟩ := h
  obtain ⟨b0, b1, b2⟩ := h'
  have hpq := Int.mul_pos a0 b0
  refine ⟨fr_pos hpq, Int.mul_pos a1 b1, ?_⟩
  have hm := fr_mul (n := p.1 * q.2 + q.1 * p.2) hpq
  unfold rAdd
  generalize fr (p.1 * q.2 + q.1 * p.2) (p.2 * q.2) = s at *
  refine Int.eq_of_mul_eq_mul_left (a := p.2 * q.2) (by omega) ?_
  grind
theorem Fq.mul {p q : Int × Int} {N D M E : Int} (h : Fq p N D) (h' : Fq q M E) : Fq (rMul p q) (N * M) (D * E) := by
  obtain ⟨a0, a1, a2⟩ := h
  obtain ⟨b0, b1, b2⟩ := h'
  have hpq := Int.mul_pos a0 b0
  refine ⟨fr_pos hpq, Int.mul_pos a1 b1, ?_⟩
  have hm := fr_mul (n := p.1 * q.1) hpq
  unfold rMul
  generalize fr (p.1 * q.1) (p.2 * q.2) = s at *
  refine Int.eq_of_mul_eq_mul_left (a := p.2 * q.2) (by omega) ?_
  grind
end Go.Proofs.YtjfedpblkejmkaaGreat

/-
  A node in balance: balanced of package hybrid.
-/
namespace Go.Proofs.YtjfedpblkejmkaaGreat
open Go.RowKit

/-- A fraction with small parts. -/
structure SmF (p : Int × Int) : Prop where
  n0 : -1000000000 ≤ p.1
  n1 : p.1 ≤ 1000000000
  d0 : 1 ≤ p.2
  d1 : p.2 ≤ 1000000000

end Go.Proofs.YtjfedpblkejmkaaGreat

