/-
  Texts of this claim, in their build order: Lib11 V5 V7 P2 OP1 W6 W8 W10 W12.
-/
import Derived.Test.YtfdlhhinomjakaaHel24
import Derived.Test.YtfdlhhinomjakaaHel23
import Derived.Test.YtfdlhhinomjakaaHel11
import Derived.Test.YtfdlhhinomjakaaHel21
import Derived.Lib.AppendZerosOnto
import Derived.Test.YtfdlhhinomjakaaHel22

namespace Go.Proofs.Ytfdlhhinomjakaa
section
open Go.RowKit

section
variable {P : Program} {N m : Nat} {ops : Array Oper} {Q : Exit → Act → World → Prop}

def wpE (P : Program) (N m : Nat) (ops : Array Oper) (Q : Exit → Act → World → Prop) : Nat → Array Bool → Act → World → Prop
  | 0, listed, a, w => Region.ready .any ops listed = [] ∧ Q .normal a w
  | f + 1, listed, a, w =>
    (Region.ready .any ops listed = [] → Q .normal a w) ∧
    ∀ i ∈ Region.ready .any ops listed, wpOp P ops Q i (fun a' w' => (i < m → Below N w w') ∧ wpE P N m ops Q f (listed.setIfInBounds i true) a' w') a w
theorem wpAny_of_wpE : ∀ (f : Nat) (listed : Array Bool) (a : Act) (w : World), wpE P N m ops Q f listed a w → wpAny P .any ops Q f listed a w
  | 0, _, _, _, h => h
  | f + 1, _, _, _, h => ⟨h.1, fun i hi => wpOp_mono (fun a' w' h' => wpAny_of_wpE f _ a' w' h'.2) (h.2 i hi)⟩

theorem wpE_first {i : Nat} {oi : Oper} {v : Value} (hi : ops[i]? = some oi) (hsel : ∀ (j : Nat) (o : Oper) cs b, ops[j]? = some o → o.op ≠ .select cs b)
    (hs : Region.sinkB .any ops m = true) (hc : Region.chainB .any ops m = true) (hm : m < ops.size) (him : i < m)
    (hQ : ∀ c a w, Q (.panic c) (a.put oi.dst v) w → Q (.panic c) a w) :
    ∀ (fuel : Nat) (listed : Array Bool) (a : Act) (w : World), HeadInv .any ops m listed →
      (∀ j oj, ops[j]? = some oj → j ≠ i → listed.getD j true = false → (∀ e ∈ oj.after, Region.binds .any e = true → e.on ≠ i) → oi.apart ops oj = true) →
      i ∈ Region.ready .any ops listed → Y2 P N ops oi v a w →
      wpE P N m ops Q fuel (listed.setIfInBounds i true) (a.put oi.dst v) w → wpE P N m ops Q (fuel + 1) listed a w := by
  intro fuel
  induction fuel with
  | zero =>
    intro listed a w _ _ hr hy H
    refine ⟨fun h => (by rw [h] at hr; cases hr), fun j hj => ?_⟩
    by_cases hji : j = i
    · subst hji; exact hy.wpOp hi ⟨fun _ => Below.refl _ _, H⟩
    · have := ready_mono hj hji
      rw [H.1] at this
      cases this
  | succ fuel ih =>
    intro listed a w inv hfree hr hy H
    refine ⟨fun h => (by rw [h] at hr; cases hr), fun j hj => ?_⟩
    have hun := (mem_ready.1 hr).1
    by_cases hji : j = i
    · subst hji; exact hy.wpOp hi ⟨fun _ => Below.refl _ _, H⟩
    · have hjm : j < m := by
        rcases Nat.lt_or_ge j m with h | h
        · exact h
        · exact absurd hj (tail_waits hs hc hm inv _ i rfl him hun j h)
      have h1 := wpOp_mono (fun a' w' (h : (j < m → Below N w w') ∧ _) => (⟨h.1 hjm, h.2⟩ : Below N w w' ∧ _)) (H.2 j (ready_mono hj hji))
      obtain ⟨hjun, oj, hoj, hall⟩ := mem_ready.1 hj
      have hnot : ∀ e ∈ oj.after, Region.binds .any e = true → e.on ≠ i := fun e he hb heq => by
        have h1 := hall e he hb
        rw [heq, getD_both hun] at h1
        cases h1
      have h2 := wpOp_put2 hoj (hfree j oj hoj hji hjun hnot) (fun cs b => hsel i oi cs b hi) (fun cs b => hsel j oj cs b hoj) hQ hy h1
      have hfree' : ∀ k ok, ops[k]? = some ok → k ≠ i → (listed.setIfInBounds j true).getD k true = false →
          (∀ e ∈ ok.after, Region.binds .any e = true → e.on ≠ i) → oi.apart ops ok = true := fun k ok hk hki hun hno => by
        refine hfree k ok hk hki ?_ hno
        by_cases hjk : j = k
        · subst hjk; exact hjun
        · rw [getD_set_ne true hjk] at hun; exact hun
      refine wpOp_mono (fun a' w' h3 => ⟨fun _ => h3.1, ih (listed.setIfInBounds j true) a' w' (inv.set hj hjm) hfree' (ready_mono hr (Ne.symm hji)) h3.2.1 ?_⟩) h2
      rw [Array.setIfInBounds_comm _ _ hji]
      exact h3.2.2
end

section
variable {P : Program} {N m : Nat} {l : List Oper} {Q : Exit → Act → World → Prop}

/-- Do the operations from m on wait for all before, each for the one ahead? -/
def tailB (l : List Oper) (m : Nat) : Bool := Region.noSelect l.toArray && decide (m < l.toArray.size) && Region.sinkB .any l.toArray m && Region.chainB .any l.toArray m

/-- A walk over the orders that matter, of a region whose last operations may store anywhere. -/
structure WE (P : Program) (N m : Nat) (l : List Oper) (Q : Exit → Act → World → Prop) (f : Nat) (listed : Array Bool) (a : Act) (w : World) : Prop where
  out : HeadInv .any l.toArray m listed ∧ tailB l m = true → wpE P N m l.toArray Q f listed a w
theorem headSet {ops : Array Oper} {n i : Nat} {listed : Array Bool} (inv : HeadInv .any ops n listed) (hi : (Region.ready .any ops listed).contains i = true) (hin : i < n) : HeadInv .any ops n (listed.setIfInBounds i true) :=
  inv.set (by simpa using hi) hin
theorem WE_yes {f : Nat} {listed : Array Bool} {a : Act} {w : World} (i : Nat) {o : Oper} (hi : l[i]? = some o) (hB : (decide (i < m) && (Region.ready .any l.toArray listed).contains i && Region.free .any l.toArray listed i) = true)
    (hQ : ∀ c d v a w, Q (.panic c) (a.put (some d) v) w → Q (.panic c) a w) (hw : Region.wanted o (yielded l.toArray a.tmps) = true)
    (h : ∃ v, (∀ w', Below N w w' → o.quietAt P a (fun w'' => w'' = w') w' v) ∧ WE P N m l Q f (listed.setIfInBounds i true) (a.put o.dst v) w) : WE P N m l Q (f + 1) listed a w := by
  obtain ⟨v, hv, hn⟩ := h
  simp only [Bool.and_eq_true, decide_eq_true_eq] at hB
  have h0 : l.toArray[i]? = some o := by simpa using hi
  refine ⟨fun ⟨inv, ht⟩ => ?_⟩
  have ht2 := ht
  simp only [tailB, Bool.and_eq_true, decide_eq_true_eq] at ht2
  refine wpE_first h0 (Region.noSelect_spec ht2.1.1.1) ht2.1.2 ht2.2 ht2.1.1.2 hB.1.1 (fun c a w => ?_) _ _ _ _ inv (Region.free_spec h0 hB.2) (by simpa using hB.1.2) (.inl ⟨hw, hv⟩) (hn.out ⟨headSet inv hB.1.2 hB.1.1, ht⟩)
  cases hd : o.dst with
  | none => exact fun h => h
  | some d => exact hQ c d v a w
/-- What is asked of one operation that comes up. -/
def stepE (P : Program) (N m : Nat) (l : List Oper) (Q : Exit → Act → World → Prop) (f i : Nat) (listed : Array Bool) (o : Oper) (a : Act) (w : World) : Prop :=
  wpList P l.toArray (MidQ (fun a' w' => Below N w w' ∧ WE P N m l Q f (listed.setIfInBounds i true) a' w') Q) [o] a w
theorem stepE.op {f i : Nat} {listed : Array Bool} {o : Oper} {a : Act} {w : World} (hi : l[i]? = some o) (him : i < m) (hr : i ∈ Region.ready .any l.toArray listed) (inv : HeadInv .any l.toArray m listed) (ht : tailB l m = true) (h : stepE P N m l Q f i listed o a w) :
    wpOp P l.toArray Q i (fun a' w' => (i < m → Below N w w') ∧ wpE P N m l.toArray Q f (listed.setIfInBounds i true) a' w') a w :=
  wpOp_mono (fun _ _ h' => ⟨fun _ => h'.1, h'.2.out ⟨inv.set hr him, ht⟩⟩) (wpOp_of_mid (by simpa using hi) h)
theorem WE_one {f : Nat} {listed : Array Bool} {a : Act} {w : World} (i : Nat) {o : Oper} (hi : l[i]? = some o) (him : i < m) (hr : Region.ready .any l.toArray listed = [i]) (h : stepE P N m l Q f i listed o a w) : WE P N m l Q (f + 1) listed a w := by
  refine ⟨fun ⟨inv, ht⟩ => ⟨fun h1 => (by rw [hr] at h1; cases h1), fun j hj => ?_⟩⟩
  have hj' := hj
  rw [hr] at hj
  have : j = i := by simpa using hj
  subst this
  exact h.op hi him hj' inv ht
theorem WE_two {f : Nat} {listed : Array Bool} {a : Act} {w : World} (i j : Nat) {o p : Oper} (hi : l[i]? = some o) (hj : l[j]? = some p) (him : i < m) (hjm : j < m) (hr : Region.ready .any l.toArray listed = [i, j]) (h : stepE P N m l Q f i listed o a w) (h' : stepE P N m l Q f j listed p a w) : WE P N m l Q (f + 1) listed a w := by
  refine ⟨fun ⟨inv, ht⟩ => ⟨fun h1 => (by rw [hr] at h1; cases h1), fun k hk => ?_⟩⟩
  have hk' := hk
  rw [hr] at hk
  simp only [List.mem_cons, List.not_mem_nil, or_false] at hk
  rcases hk with rfl | rfl
  · exact h.op hi him hk' inv ht
  · exact h'.op hj hjm hk' inv ht

theorem wpE_of_seq : ∀ (r : List Oper) (k : Nat) (listed : Array Bool) (a : Act) (w : World), m ≤ k → (∀ j, r[j]? = l.toArray[k + j]?) →
    Region.seqB .any l.toArray r.length k listed = true → wpList P l.toArray Q r a w → wpE P N m l.toArray Q r.length listed a w
  | [], _, _, _, _, _, _, hB, h => ⟨by simpa [Region.seqB] using hB, h⟩
  | o :: r, k, listed, a, w, hk, hl, hB, h => by
    have h0 : l.toArray[k]? = some o := by simpa using (hl 0).symm
    simp only [List.length_cons, Region.seqB, Bool.and_eq_true, decide_eq_true_eq] at hB
    refine ⟨fun h1 => (by rw [hB.1] at h1; cases h1), fun i hi => ?_⟩
    rw [hB.1] at hi
    have hik : i = k := by simpa using hi
    subst hik
    have hw : wpOp P l.toArray Q i (wpList P l.toArray Q r) a w := by unfold wpOp; simp only [h0]; exact h
    exact wpOp_mono (fun a' w' h' => ⟨fun hlt => absurd hlt (by omega), wpE_of_seq r (i + 1) _ a' w' (by omega) (fun j => by have := hl (j + 1); simpa [Nat.add_assoc, Nat.add_comm 1 j] using this) hB.2 h'⟩) hw
/-- The operations from m on, in their forced order. -/
theorem WE_tail {f : Nat} {listed : Array Bool} {a : Act} {w : World} (hf : (l.drop m).length = f) (hB : Region.seqB .any l.toArray (l.drop m).length m listed = true) (h : wpList P l.toArray Q (l.drop m) a w) : WE P N m l Q f listed a w := by
  subst hf
  exact ⟨fun _ => wpE_of_seq (l.drop m) m listed a w (Nat.le_refl _) (fun j => by simp [List.getElem?_drop]) hB h⟩
theorem wp_region_treeT {id : Nat} {a : Act} {w : World} (m : Nat) (hm : P.follows .mixedOrders = true) (hB : tailB l m = true)
    (h : ∀ w', Below w.heap.size w w' → WE P w.heap.size m l Q l.length (Array.replicate l.length false) a w') : (Code.region id l.toArray true).wp P Q a w := by
  refine wp_region_any hm (wpAny_of_wpE (N := w.heap.size) (m := m) _ _ _ _ ?_)
  have inv0 : HeadInv .any l.toArray m (Array.replicate l.length false) :=
    ⟨by simp, fun j oj _ hl => (by rw [getD_replicate_false] at hl; cases hl), fun t _ ht => getD_in (by simpa using ht) (getD_replicate_false _ _)⟩
  have := (h { w with drawn := w.drawn + 1 } (Below.refl _ _).drew).out ⟨inv0, hB⟩
  simpa using this
end
end
section
open Go.RowKit

/-- The error of a fraction's form and size. -/
def frE (p : Int × Int) : Int := firstE [unl (lowB p.1 p.2) 3, unl ((decide (-1000000000 ≤ p.1) && decide (p.1 ≤ 1000000000)) && decide (p.2 ≤ 1000000000)) 2]
end
section
open Go.RowKit

theorem frE_zero {p : Int × Int} (h : frE p = 0) : SmF p := by
  have e := firstE_zero (show firstE [_, _] = 0 from h)
  have e1 := unl_zero (by decide) (e _ (List.mem_cons_self ..))
  have e2 := unl_zero (by decide) (e _ (List.mem_cons_of_mem _ (List.mem_cons_self ..)))
  unfold lowB at e1
  simp only [Bool.and_eq_true, decide_eq_true_eq] at e1 e2
  exact ⟨by omega, by omega, by omega, by omega⟩
end
section
open Go.RowKit

/-- What is so of true displacements. -/
structure Mvd (ks fs : List Int) (l : List (Int × Int)) (L : Int) : Prop where
  ok : ChOk ks fs
  len : l.length = ks.length
  L0 : 0 < L
  div : ∀ k, k < ks.length → gi ks k ∣ L
  at' : ∀ k, k < ks.length → fg l k = fr (refN ks fs L (k + 1)) L
  fit : ∀ k, k < ks.length → fits (fg l k) = true
theorem fr_low (n : Int) {m : Int} (hm : 0 < m) : Int.gcd (fr n m).1 (fr n m).2 = 1 := by
  obtain ⟨g, a, b, hg, hb, h1, h2, h3, h4⟩ := fr_ex (n := n) hm
  rw [h3]
  dsimp only
  have e : Int.gcd n m = g.natAbs * Int.gcd a b := by rw [h1, h2, Int.gcd_mul_left]
  have hgn : (g.natAbs : Int) = g := by omega
  have h5 : Int.gcd n m = g.natAbs := by omega
  have h6 : g.natAbs * Int.gcd a b = g.natAbs * 1 := by omega
  exact Nat.eq_of_mul_eq_mul_left (by omega) h6
theorem lowB_fr (n : Int) {m : Int} (hm : 0 < m) : lowB (fr n m).1 (fr n m).2 = true := by
  unfold lowB
  rw [fr_low n hm, decide_eq_true (fr_pos hm)]
  rfl
theorem Mvd.low {ks fs : List Int} {l : List (Int × Int)} {L : Int} (h : Mvd ks fs l L) {k : Nat} (hk : k < ks.length) : lowB (fg l k).1 (fg l k).2 = true := by
  rw [h.at' k hk]; exact lowB_fr _ h.L0
theorem Mvd.frE {ks fs : List Int} {l : List (Int × Int)} {L : Int} (h : Mvd ks fs l L) {k : Nat} (hk : k < ks.length) : frE (fg l k) = 0 := by
  have h1 := h.low hk
  have h2 := h.fit k hk
  unfold Go.Proofs.Ytfdlhhinomjakaa.frE
  unfold fits at h2
  rw [h1, h2]
  simp [firstE, unl]
theorem Mvd.sm {ks fs : List Int} {l : List (Int × Int)} {L : Int} (h : Mvd ks fs l L) (k : Nat) (hk : k < l.length) : SmF (fg l k) := frE_zero (h.frE (by rw [← h.len]; exact hk))
end
section
open Go.RowKit

/-- The first index from k on, of m, at which it is so (k + m if nowhere). -/
def ixF (p : Nat → Bool) : Nat → Nat → Nat
  | k, 0 => k
  | k, m + 1 => if p k then k else ixF p (k + 1) m
/-- Points of a line that rises: at most 8, the first at 0. -/
structure PtsOk (l : List (Int × Int)) : Prop where
  two : 2 ≤ l.length
  few : l.length ≤ 8
  v0 : (fg l 0).1 = 0
  vol : ∀ k, k < l.length → 0 ≤ (fg l k).1 ∧ (fg l k).1 ≤ 200
  prs : ∀ k, k < l.length → 0 ≤ (fg l k).2 ∧ (fg l k).2 ≤ 1000
  up : ∀ k, k + 1 < l.length → (fg l k).1 < (fg l (k + 1)).1 ∧ (fg l k).2 < (fg l (k + 1)).2
def capV (l : List (Int × Int)) : Int := (fg l (l.length - 1)).1
/-- The first point at or beyond a number. -/
def ptI (l : List (Int × Int)) (v : Int) : Nat := ixF (fun j => decide (v ≤ (fg l j).1)) 0 l.length
/-- The value between two points. -/
def segQ (a b : Int × Int) (v : Int) : Int × Int := (a.2 * (b.1 - a.1) + (b.2 - a.2) * (v - a.1), b.1 - a.1)
/-- The program's value of the line: a quotient. -/
def prQ (l : List (Int × Int)) (v : Int) : Int × Int := if (fg l (ptI l v)).1 = v then ((fg l (ptI l v)).2, 1) else segQ (fg l (ptI l v - 1)) (fg l (ptI l v)) v
theorem PtsOk.mono {l : List (Int × Int)} (h : PtsOk l) {i : Nat} : ∀ {d : Nat}, i + d < l.length → (fg l i).1 + d ≤ (fg l (i + d)).1 ∧ (fg l i).2 + d ≤ (fg l (i + d)).2
  | 0, _ => by simp
  | d + 1, hd => by
    have h1 := h.mono (i := i) (d := d) (by omega)
    have h2 := h.up (i + d) (by omega)
    rw [show i + (d + 1) = i + d + 1 by omega]
    omega
end
section
open Go.RowKit

/-- A list of digits in new memory. -/
def DPost (P : List Int → Prop) (w : World) (e : Ending) (w' : World) : Prop :=
  ∃ (out : List Int) (a' : Option Addr) (cap' : Nat), e = .returned (.slice a' out.length cap') ∧ P out ∧ out.length ≤ cap' ∧ Reads w' a' out.length (ints out) ∧ Below w.heap.size w w' ∧ ∀ p, a' = some p → w.heap.size ≤ p.block
end
section
open Go.RowKit

theorem DPost.mono {P Q : List Int → Prop} (h : ∀ out, P out → Q out) {w : World} {e : Ending} {w' : World} (hp : DPost P w e w') : DPost Q w e w' := by
  obtain ⟨out, a, cap, h1, h2, h3⟩ := hp
  exact ⟨out, a, cap, h1, h _ h2, h3⟩
end
section
open Go.RowKit

theorem gi_set (l : List Int) (i j : Nat) (v : Int) : gi (l.set i v) j = if i = j ∧ i < l.length then v else gi l j := by
  unfold gi
  rw [List.getD_eq_getElem?_getD, List.getD_eq_getElem?_getD, List.getElem?_set]
  by_cases h : i = j
  · subst h
    by_cases h2 : i < l.length
    · simp [h2]
    · simp [h2]
  · simp [h]
theorem Dig.set {l : List Int} (h : Dig l) (i : Nat) {v : Int} (h0 : 0 ≤ v) (h1 : v < 1000000000) : Dig (l.set i v) := fun d hd => by
  rcases List.mem_or_eq_of_mem_set hd with h2 | h2
  · exact h d h2
  · rw [h2]; exact ⟨h0, h1⟩
/-- A block of numbers. -/
def OutB (W : World) (b : Nat) (os : List Int) : Prop :=
  b < W.heap.size ∧ (∀ o, o < os.length → W.cell? ⟨b, o, none⟩ = some (.int .i64 (gi os o))) ∧ ∀ o, W.frozen? ⟨b, o, none⟩ = false
theorem OutB.to {W W' : World} {b : Nat} {os : List Int} (h : OutB W b os) (hb : Below W.heap.size W W') : OutB W' b os :=
  ⟨Nat.lt_of_lt_of_le h.1 hb.size, fun o ho => (hb.cell (p := ⟨b, o, none⟩) h.1).trans (h.2.1 o ho), fun o => (hb.frozen (p := ⟨b, o, none⟩) h.1).trans (h.2.2 o)⟩
theorem OutB.set {W : World} {b : Nat} {os : List Int} (h : OutB W b os) {i : Nat} (hi : i < os.length) (v : Int) : OutB (W.setCell ⟨b, i, none⟩ (.int .i64 v)) b (os.set i v) := by
  refine ⟨by simpa [World.setCell] using h.1, fun o ho => ?_, fun o => by rw [World.frozen?_setCell]; exact h.2.2 o⟩
  rw [List.length_set] at ho
  rw [gi_set]
  by_cases hio : i = o
  · subst hio
    rw [if_pos ⟨rfl, hi⟩]
    exact World.cell?_setCell_same _ _ _ (h.2.1 i hi)
  · rw [if_neg (fun h => hio h.1), World.cell?_setCell_other _ _ _ _ (by intro e; cases e; exact hio rfl)]
    exact h.2.1 o ho
theorem OutB.new (W : World) (L : Nat) : OutB (W.alloc (.cells (madeCells #[.int .i64 0] L) 3)) W.heap.size (List.replicate L 0) := by
  have h := Blk.new W (madeCells #[.int .i64 0] L) 3
  refine ⟨h.1, fun o ho => ?_, h.2.2⟩
  rw [List.length_replicate] at ho
  rw [h.2.1 o, gi_rep]
  unfold madeCells
  simp [ho, Nat.mod_one]
/-- What the loops of WideMul keep. -/
structure MulI (w W : World) (c0 c1 : Array Value) (BO : Nat) (os : List Int) : Prop where
  k0 : Blk W w.heap.size c0
  k1 : Blk W (w.heap.size + 1) c1
  k2 : Blk W (w.heap.size + 2) #[.int .i64 0, .slice none 0 0]
  out : OutB W BO os
  below : Below w.heap.size w W
theorem MulI.to {w W W' : World} {c0 c1 : Array Value} {BO : Nat} {os : List Int} (h : MulI w W c0 c1 BO os) (hb : Below W.heap.size W W') : MulI w W' c0 c1 BO os :=
  ⟨h.k0.to hb, h.k1.to hb, h.k2.to hb, h.out.to hb, bThen h.below hb⟩
theorem MulI.set {w W : World} {c0 c1 : Array Value} {BO : Nat} {os : List Int} (h : MulI w W c0 c1 BO os) (hB : w.heap.size + 3 ≤ BO) {i : Nat} (hi : i < os.length) (v : Int) : MulI w (W.setCell ⟨BO, i, none⟩ (.int .i64 v)) c0 c1 BO (os.set i v) :=
  ⟨h.k0.other (p := ⟨BO, i, none⟩) (by dsimp only; omega) _, h.k1.other (p := ⟨BO, i, none⟩) (by dsimp only; omega) _, h.k2.other (p := ⟨BO, i, none⟩) (by dsimp only; omega) _, h.out.set hi v, h.below.setCell (p := ⟨BO, i, none⟩) (by dsimp only; omega) _⟩
end
section
open Go.RowKit

/-- What the search for a digit keeps. -/
structure Srch (N L lo hi : Int) : Prop where
  l0 : 0 ≤ lo
  lh : lo ≤ hi
  hb : hi ≤ 999999999
  low : N * lo ≤ L
  high : L < N * (hi + 1)
theorem Srch.start {N L x R : Int} (x0 : 0 ≤ x) (x1 : x < 1000000000) (r0 : 0 ≤ R) (r1 : R < N) (hL : L = x + 1000000000 * R) : Srch N L 0 999999999 := by
  refine ⟨by omega, by omega, by omega, by rw [Int.mul_zero]; omega, ?_⟩
  have : N * (999999999 + 1) = 1000000000 * N := Int.mul_comm _ _
  omega
theorem Srch.up {N L lo hi m : Int} (h : Srch N L lo hi) (h1 : lo < m) (h2 : m ≤ hi) (hm : N * m ≤ L) : Srch N L m hi :=
  ⟨by have := h.l0; omega, h2, h.hb, hm, h.high⟩
end
end Go.Proofs.Ytfdlhhinomjakaa
