/-
  Texts of this claim, in their build order: Lib11 Z1 U1 V4 Q1 P2 OP1.
-/
import Derived.Test.YtjfedpblkejmkaaGreatBot5
import Derived.Test.YtjfedpblkejmkaaGreatBot2
import Derived.Test.YtjfedpblkejmkaaGreatBot4
import Derived.Shelf.Bits.Mul64
import Derived.Shelf.Spec.BitsCarry
import Derived.Test.YtjfedpblkejmkaaGreatBot3
import Derived.Lib.AppendZerosOnto

namespace Go.Proofs.YtjfedpblkejmkaaGreat
section
open Go.RowKit

section
variable {P : Program} {N m : Nat} {ops : Array Oper} {Q : Exit → Act → World → Prop}

def wpE (P : Program) (N m : Nat) (ops : Array Oper) (Q : Exit → Act → World → Prop) : Nat → Array Bool → Act → World → Prop
  | 0, listed, a, w => Region.ready .any ops listed = [] ∧ Q .normal a w
  | f + 1, listed, a, w =>
    (Region.ready .any ops listed = [] → Q .normal a w) ∧
    ∀ i ∈ Region.ready .any ops listed, wpOp P ops Q i (fun a' w' => (i < m → Below N w w') ∧ wpE P N m ops Q f (listed.setIfInBounds i true) a' w') a w
theorem wpAny_of_wpE : ∀ (f : Nat) (listed : Array Bool) (a : Act) (w : World), wpE P N m ops Q f listed a w → wpAny P .any ops Q f listed a w
  | 0, _, _, _, h => h
  | f + 1, _, _, _, h => ⟨h.1, fun i hi => wpOp_mono (fun a' w' h' => wpAny_of_wpE f _ a' w' h'.2) (h.2 i hi)⟩

theorem wpE_first {i : Nat} {oi : Oper} {v : Value} (hi : ops[i]? = some oi) (hsel : ∀ (j : Nat) (o : Oper) cs b, ops[j]? = some o → o.op ≠ .select cs b)
    (hs : Region.sinkB .any ops m = true) (hc : Region.chainB .any ops m = true) (hm : m < ops.size) (him : i < m)
    (hQ : ∀ c a w, Q (.panic c) (a.put oi.dst v) w → Q (.panic c) a w) :
    ∀ (fuel : Nat) (listed : Array Bool) (a : Act) (w : World), HeadInv .any ops m listed →
      (∀ j oj, ops[j]? = some oj → j ≠ i → listed.getD j true = false → (∀ e ∈ oj.after, Region.binds .any e = true → e.on ≠ i) → oi.apart ops oj = true) →
      i ∈ Region.ready .any ops listed → Y2 P N ops oi v a w →
      wpE P N m ops Q fuel (listed.setIfInBounds i true) (a.put oi.dst v) w → wpE P N m ops Q (fuel + 1) listed a w := by
  intro fuel
  induction fuel with
  | zero =>
    intro listed a w _ _ hr hy H
    refine ⟨fun h => (by rw [h] at hr; cases hr), fun j hj => ?_⟩
    by_cases hji : j = i
    · subst hji; exact hy.wpOp hi ⟨fun _ => Below.refl _ _, H⟩
    · have := ready_mono hj hji
      rw [H.1] at this
      cases this
  | succ fuel ih =>
    intro listed a w inv hfree hr hy H
    refine ⟨fun h => (by rw [h] at hr; cases hr), fun j hj => ?_⟩
    have hun := (mem_ready.1 hr).1
    by_cases hji : j = i
    · subst hji; exact hy.wpOp hi ⟨fun _ => Below.refl _ _, H⟩
    · have hjm : j < m := by
        rcases Nat.lt_or_ge j m with h | h
        · exact h
        · exact absurd hj (tail_waits hs hc hm inv _ i rfl him hun j h)
      have h1 := wpOp_mono (fun a' w' (h : (j < m → Below N w w') ∧ _) => (⟨h.1 hjm, h.2⟩ : Below N w w' ∧ _)) (H.2 j (ready_mono hj hji))
      obtain ⟨hjun, oj, hoj, hall⟩ := mem_ready.1 hj
      have hnot : ∀ e ∈ oj.after, Region.binds .any e = true → e.on ≠ i := fun e he hb heq => by
        have h1 := hall e he hb
        rw [heq, getD_both hun] at h1
        cases h1
      have h2 := wpOp_put2 hoj (hfree j oj hoj hji hjun hnot) (fun cs b => hsel i oi cs b hi) (fun cs b => hsel j oj cs b hoj) hQ hy h1
      have hfree' : ∀ k ok, ops[k]? = some ok → k ≠ i → (listed.setIfInBounds j true).getD k true = false →
          (∀ e ∈ ok.after, Region.binds .any e = true → e.on ≠ i) → oi.apart ops ok = true := fun k ok hk hki hun hno => by
        refine hfree k ok hk hki ?_ hno
        by_cases hjk : j = k
        · subst hjk; exact hjun
        · rw [getD_set_ne true hjk] at hun; exact hun
      refine wpOp_mono (fun a' w' h3 => ⟨fun _ => h3.1, ih (listed.setIfInBounds j true) a' w' (inv.set hj hjm) hfree' (ready_mono hr (Ne.symm hji)) h3.2.1 ?_⟩) h2
      rw [Array.setIfInBounds_comm _ _ hji]
      exact h3.2.2
end

section
variable {P : Program} {N m : Nat} {l : List Oper} {Q : Exit → Act → World → Prop}

/-- Do the operations from m on wait for all before, each for the one ahead? -/
def tailB (l : List Oper) (m : Nat) : Bool := Region.noSelect l.toArray && decide (m < l.toArray.size) && Region.sinkB .any l.toArray m && Region.chainB .any l.toArray m

/-- A walk over the orders that matter, of a region whose last operations may store anywhere. -/
structure WE (P : Program) (N m : Nat) (l : List Oper) (Q : Exit → Act → World → Prop) (f : Nat) (listed : Array Bool) (a : Act) (w : World) : Prop where
  out : HeadInv .any l.toArray m listed ∧ tailB l m = true → wpE P N m l.toArray Q f listed a w
theorem headSet {ops : Array Oper} {n i : Nat} {listed : Array Bool} (inv : HeadInv .any ops n listed) (hi : (Region.ready .any ops listed).contains i = true) (hin : i < n) : HeadInv .any ops n (listed.setIfInBounds i true) :=
  inv.set (by simpa using hi) hin
theorem WE_yes {f : Nat} {listed : Array Bool} {a : Act} {w : World} (i : Nat) {o : Oper} (hi : l[i]? = some o) (hB : (decide (i < m) && (Region.ready .any l.toArray listed).contains i && Region.free .any l.toArray listed i) = true)
    (hQ : ∀ c d v a w, Q (.panic c) (a.put (some d) v) w → Q (.panic c) a w) (hw : Region.wanted o (yielded l.toArray a.tmps) = true)
    (h : ∃ v, (∀ w', Below N w w' → o.quietAt P a (fun w'' => w'' = w') w' v) ∧ WE P N m l Q f (listed.setIfInBounds i true) (a.put o.dst v) w) : WE P N m l Q (f + 1) listed a w := by
  obtain ⟨v, hv, hn⟩ := h
  simp only [Bool.and_eq_true, decide_eq_true_eq] at hB
  have h0 : l.toArray[i]? = some o := by simpa using hi
  refine ⟨fun ⟨inv, ht⟩ => ?_⟩
  have ht2 := ht
  simp only [tailB, Bool.and_eq_true, decide_eq_true_eq] at ht2
  refine wpE_first h0 (Region.noSelect_spec ht2.1.1.1) ht2.1.2 ht2.2 ht2.1.1.2 hB.1.1 (fun c a w => ?_) _ _ _ _ inv (Region.free_spec h0 hB.2) (by simpa using hB.1.2) (.inl ⟨hw, hv⟩) (hn.out ⟨headSet inv hB.1.2 hB.1.1, ht⟩)
  cases hd : o.dst with
  | none => exact fun h => h
  | some d => exact hQ c d v a w
/-- What is asked of one operation that comes up. -/
def stepE (P : Program) (N m : Nat) (l : List Oper) (Q : Exit → Act → World → Prop) (f i : Nat) (listed : Array Bool) (o : Oper) (a : Act) (w : World) : Prop :=
  wpList P l.toArray (MidQ (fun a' w' => Below N w w' ∧ WE P N m l Q f (listed.setIfInBounds i true) a' w') Q) [o] a w
theorem stepE.op {f i : Nat} {listed : Array Bool} {o : Oper} {a : Act} {w : World} (hi : l[i]? = some o) (him : i < m) (hr : i ∈ Region.ready .any l.toArray listed) (inv : HeadInv .any l.toArray m listed) (ht : tailB l m = true) (h : stepE P N m l Q f i listed o a w) :
    wpOp P l.toArray Q i (fun a' w' => (i < m → Below N w w') ∧ wpE P N m l.toArray Q f (listed.setIfInBounds i true) a' w') a w :=
  wpOp_mono (fun _ _ h' => ⟨fun _ => h'.1, h'.2.out ⟨inv.set hr him, ht⟩⟩) (wpOp_of_mid (by simpa using hi) h)
theorem WE_one {f : Nat} {listed : Array Bool} {a : Act} {w : World} (i : Nat) {o : Oper} (hi : l[i]? = some o) (him : i < m) (hr : Region.ready .any l.toArray listed = [i]) (h : stepE P N m l Q f i listed o a w) : WE P N m l Q (f + 1) listed a w := by
  refine ⟨fun ⟨inv, ht⟩ => ⟨fun h1 => (by rw [hr] at h1; cases h1), fun j hj => ?_⟩⟩
  have hj' := hj
  rw [hr] at hj
  have : j = i := by simpa using hj
  subst this
  exact h.op hi him hj' inv ht
theorem WE_two {f : Nat} {listed : Array Bool} {a : Act} {w : World} (i j : Nat) {o p : Oper} (hi : l[i]? = some o) (hj : l[j]? = some p) (him : i < m) (hjm : j < m) (hr : Region.ready .any l.toArray listed = [i, j]) (h : stepE P N m l Q f i listed o a w) (h' : stepE P N m l Q f j listed p a w) : WE P N m l Q (f + 1) listed a w := by
  refine ⟨fun ⟨inv, ht⟩ => ⟨fun h1 => (by rw [hr] at h1; cases h1), fun k hk => ?_⟩⟩
  have hk' := hk
  rw [hr] at hk
  simp only [List.mem_cons, List.not_mem_nil, or_false] at hk
  rcases hk with rfl | rfl
  · exact h.op hi him hk' inv ht
  · exact h'.op hj hjm hk' inv ht

theorem wpE_of_seq : ∀ (r : List Oper) (k : Nat) (listed : Array Bool) (a : Act) (w : World), m ≤ k → (∀ j, r[j]? = l.toArray[k + j]?) →
    Region.seqB .any l.toArray r.length k listed = true → wpList P l.toArray Q r a w → wpE P N m l.toArray Q r.length listed a w
  | [], _, _, _, _, _, _, hB, h => ⟨by simpa [Region.seqB] using hB, h⟩
  | o :: r, k, listed, a, w, hk, hl, hB, h => by
    have h0 : l.toArray[k]? = some o := by simpa using (hl 0).symm
    simp only [List.length_cons, Region.seqB, Bool.and_eq_true, decide_eq_true_eq] at hB
    refine ⟨fun h1 => (by rw [hB.1] at h1; cases h1), fun i hi => ?_⟩
    rw [hB.1] at hi
    have hik : i = k := by simpa using hi
    subst hik
    have hw : wpOp P l.toArray Q i (wpList P l.toArray Q r) a w := by unfold wpOp; simp only [h0]; exact h
    exact wpOp_mono (fun a' w' h' => ⟨fun hlt => absurd hlt (by omega), wpE_of_seq r (i + 1) _ a' w' (by omega) (fun j => by have := hl (j + 1); simpa [Nat.add_assoc, Nat.add_comm 1 j] using this) hB.2 h'⟩) hw
/-- The operations from m on, in their forced order. -/
theorem WE_tail {f : Nat} {listed : Array Bool} {a : Act} {w : World} (hf : (l.drop m).length = f) (hB : Region.seqB .any l.toArray (l.drop m).length m listed = true) (h : wpList P l.toArray Q (l.drop m) a w) : WE P N m l Q f listed a w := by
  subst hf
  exact ⟨fun _ => wpE_of_seq (l.drop m) m listed a w (Nat.le_refl _) (fun j => by simp [List.getElem?_drop]) hB h⟩
theorem wp_region_treeT {id : Nat} {a : Act} {w : World} (m : Nat) (hm : P.follows .mixedOrders = true) (hB : tailB l m = true)
    (h : ∀ w', Below w.heap.size w w' → WE P w.heap.size m l Q l.length (Array.replicate l.length false) a w') : (Code.region id l.toArray true).wp P Q a w := by
  refine wp_region_any hm (wpAny_of_wpE (N := w.heap.size) (m := m) _ _ _ _ ?_)
  have inv0 : HeadInv .any l.toArray m (Array.replicate l.length false) :=
    ⟨by simp, fun j oj _ hl => (by rw [getD_replicate_false] at hl; cases hl), fun t _ ht => getD_in (by simpa using ht) (getD_replicate_false _ _)⟩
  have := (h { w with drawn := w.drawn + 1 } (Below.refl _ _).drew).out ⟨inv0, hB⟩
  simpa using this
end
end
section
open Go.RowKit

theorem Reads.newsF {W : World} {ad : Addr} {ms : List (Int × Int)} (h : Reads W (some ad) (ms.length * 2) (fracs ms)) :
    ∀ j u, (fcells ms)[j]? = some u → W.cell? (ad.add j) = some u := by
  intro j u hj
  have hjl : j < ms.length * 2 := by rw [← fcells_len]; exact (List.getElem?_eq_some_iff.1 hj).1
  obtain ⟨b, off, e, hb, hc⟩ := h.at hjl
  cases e
  have e : (⟨b, off, none⟩ : Addr).add j = ⟨b, off + j, none⟩ := by unfold Addr.add; split <;> simp_all
  rw [e, hc j hjl, ← hj, fcells_get ms j hjl]
theorem onesF (l : List (Int × Int)) : ∀ u ∈ fcells l, u.oneCell' = true := by
  intro u hu
  obtain ⟨p, _, hp⟩ := List.mem_flatMap.1 hu
  simp only [List.mem_cons, List.not_mem_nil, or_false] at hp
  rcases hp with rfl | rfl <;> rfl
end
section
open Go.RowKit

/-- The error of a chain and a node. -/
def ndE (ks fs : List Int) (node : Int) : Int := firstE [(chkC ks fs).2, unl (decide (0 ≤ node) && decide (node ≤ (ks.length : Int) - 1)) 6]
end
section
open Go.RowKit

theorem fcells_app (l m : List (Int × Int)) : fcells (l ++ m) = fcells l ++ fcells m := by unfold fcells; rw [List.flatMap_append]
end
section
open Go.RowKit

abbrev Fl := List (Int × Int)
def mvO (ks fs : List Int) : Option Fl := movO ks fs ks.length 0 (0, 1)
def hvR (ks fs : List Int) (node : Int) : (Fl × Fl × Int) × Int :=
  if ndE ks fs node ≠ 0 then (([], [], 0), ndE ks fs node) else match mvO ks fs with | none => (([], [], 0), 8) | some l => ((l.take (node.toNat + 1), l.drop (node.toNat + 1), (fs.drop (node.toNat + 1)).sum), 0)
end
section
open Go.RowKit

/-- What is so of true displacements. -/
structure Mvd (ks fs : List Int) (l : List (Int × Int)) (L : Int) : Prop where
  ok : ChOk ks fs
  len : l.length = ks.length
  L0 : 0 < L
  div : ∀ k, k < ks.length → gi ks k ∣ L
  at' : ∀ k, k < ks.length → fg l k = fr (refN ks fs L (k + 1)) L
  fit : ∀ k, k < ks.length → fits (fg l k) = true
theorem fr_low (n : Int) {m : Int} (hm : 0 < m) : Int.gcd (fr n m).1 (fr n m).2 = 1 := by
  obtain ⟨g, a, b, hg, hb, h1, h2, h3, h4⟩ := fr_ex (n := n) hm
  rw [h3]
  dsimp only
  have e : Int.gcd n m = g.natAbs * Int.gcd a b := by rw [h1, h2, Int.gcd_mul_left]
  have hgn : (g.natAbs : Int) = g := by omega
  have h5 : Int.gcd n m = g.natAbs := by omega
  have h6 : g.natAbs * Int.gcd a b = g.natAbs * 1 := by omega
  exact Nat.eq_of_mul_eq_mul_left (by omega) h6
theorem fr_id {n m : Int} (h : Int.gcd n m = 1) : fr n m = (n, m) := by
  unfold fr; rw [h]; simp
theorem lowB_fr (n : Int) {m : Int} (hm : 0 < m) : lowB (fr n m).1 (fr n m).2 = true := by
  unfold lowB
  rw [fr_low n hm, decide_eq_true (fr_pos hm)]
  rfl
theorem Mvd.low {ks fs : List Int} {l : List (Int × Int)} {L : Int} (h : Mvd ks fs l L) {k : Nat} (hk : k < ks.length) : lowB (fg l k).1 (fg l k).2 = true := by
  rw [h.at' k hk]; exact lowB_fr _ h.L0
end
section
open Go.RowKit

/-- The first index from k on, of m, at which it is so (k + m if nowhere). -/
def ixF (p : Nat → Bool) : Nat → Nat → Nat
  | k, 0 => k
  | k, m + 1 => if p k then k else ixF p (k + 1) m
theorem ixF_no (p : Nat → Bool) : ∀ m k j, k ≤ j → j < ixF p k m → p j = false
  | 0, k, j, h1, h2 => by unfold ixF at h2; omega
  | m + 1, k, j, h1, h2 => by
    unfold ixF at h2
    by_cases hp : p k = true
    · rw [if_pos hp] at h2; omega
    · rw [if_neg hp] at h2
      by_cases e : j = k
      · subst e; simpa using hp
      · exact ixF_no p m (k + 1) j (by omega) h2
theorem ixF_yes (p : Nat → Bool) : ∀ m k, ixF p k m < k + m → p (ixF p k m) = true
  | 0, k, h => by unfold ixF at h; omega
  | m + 1, k, h => by
    unfold ixF at h ⊢
    by_cases hp : p k = true
    · rw [if_pos hp]; exact hp
    · rw [if_neg hp] at h ⊢
      exact ixF_yes p m (k + 1) (by omega)
theorem ixF_step {p : Nat → Bool} {k n : Nat} (h : k < n) (h0 : p k = false) : ixF p k (n - k) = ixF p (k + 1) (n - (k + 1)) := by
  obtain ⟨m, hm⟩ : ∃ m, n - k = m + 1 := ⟨n - k - 1, by omega⟩
  rw [hm, ixF, if_neg (by rw [h0]; exact Bool.false_ne_true), show n - (k + 1) = m by omega]
theorem ixF_stop {p : Nat → Bool} {k n : Nat} (h : k < n) (h0 : p k = true) : ixF p k (n - k) = k := by
  obtain ⟨m, hm⟩ : ∃ m, n - k = m + 1 := ⟨n - k - 1, by omega⟩
  rw [hm, ixF, if_pos h0]

/-- Points of a line that rises: at most 8, the first at 0. -/
structure PtsOk (l : List (Int × Int)) : Prop where
  two : 2 ≤ l.length
  few : l.length ≤ 8
  v0 : (fg l 0).1 = 0
  vol : ∀ k, k < l.length → 0 ≤ (fg l k).1 ∧ (fg l k).1 ≤ 200
  prs : ∀ k, k < l.length → 0 ≤ (fg l k).2 ∧ (fg l k).2 ≤ 1000
  up : ∀ k, k + 1 < l.length → (fg l k).1 < (fg l (k + 1)).1 ∧ (fg l k).2 < (fg l (k + 1)).2
def capV (l : List (Int × Int)) : Int := (fg l (l.length - 1)).1
/-- The first point at or beyond a number. -/
def ptI (l : List (Int × Int)) (v : Int) : Nat := ixF (fun j => decide (v ≤ (fg l j).1)) 0 l.length
/-- The value between two points. -/
def segQ (a b : Int × Int) (v : Int) : Int × Int := (a.2 * (b.1 - a.1) + (b.2 - a.2) * (v - a.1), b.1 - a.1)
/-- The program's value of the line: a quotient. -/
def prQ (l : List (Int × Int)) (v : Int) : Int × Int := if (fg l (ptI l v)).1 = v then ((fg l (ptI l v)).2, 1) else segQ (fg l (ptI l v - 1)) (fg l (ptI l v)) v
theorem PtsOk.mono {l : List (Int × Int)} (h : PtsOk l) {i : Nat} : ∀ {d : Nat}, i + d < l.length → (fg l i).1 + d ≤ (fg l (i + d)).1 ∧ (fg l i).2 + d ≤ (fg l (i + d)).2
  | 0, _ => by simp
  | d + 1, hd => by
    have h1 := h.mono (i := i) (d := d) (by omega)
    have h2 := h.up (i + d) (by omega)
    rw [show i + (d + 1) = i + d + 1 by omega]
    omega
theorem PtsOk.leP {l : List (Int × Int)} (h : PtsOk l) {i j : Nat} (hij : i ≤ j) (hj : j < l.length) : (fg l i).2 ≤ (fg l j).2 := by
  obtain ⟨d, rfl⟩ := Nat.exists_eq_add_of_le hij
  have := (h.mono (i := i) (d := d) hj).2; omega
theorem PtsOk.leV {l : List (Int × Int)} (h : PtsOk l) {i j : Nat} (hij : i ≤ j) (hj : j < l.length) : (fg l i).1 ≤ (fg l j).1 := by
  obtain ⟨d, rfl⟩ := Nat.exists_eq_add_of_le hij
  have := (h.mono (i := i) (d := d) hj).1; omega
theorem ptI_lt {l : List (Int × Int)} {v : Int} (h : PtsOk l) (hv : v ≤ capV l) : ptI l v < l.length := by
  rcases Nat.lt_or_ge (ptI l v) l.length with h1 | h1
  · exact h1
  · have h2 := ixF_no (fun j => decide (v ≤ (fg l j).1)) l.length 0 (l.length - 1) (Nat.zero_le _) (by have := h.two; unfold ptI at h1; omega)
    have h3 : ¬ v ≤ (fg l (l.length - 1)).1 := of_decide_eq_false h2
    unfold capV at hv
    omega
theorem ptI_ge {l : List (Int × Int)} {v : Int} (h : PtsOk l) (hv : v ≤ capV l) : v ≤ (fg l (ptI l v)).1 := by
  have := ixF_yes (fun j => decide (v ≤ (fg l j).1)) l.length 0 (by have := ptI_lt h hv; unfold ptI at this; omega)
  exact of_decide_eq_true this
theorem ptI_gt {l : List (Int × Int)} {v : Int} {j : Nat} (hj : j < ptI l v) : (fg l j).1 < v := by
  have := ixF_no (fun j => decide (v ≤ (fg l j).1)) l.length 0 j (Nat.zero_le _) hj
  have : ¬ v ≤ (fg l j).1 := of_decide_eq_false this
  omega
theorem ptI_pos {l : List (Int × Int)} {v : Int} (h : PtsOk l) (h0 : 0 < v) (hv : v ≤ capV l) : 0 < ptI l v := by
  rcases Nat.eq_zero_or_pos (ptI l v) with e | e
  · have := ptI_ge h hv
    rw [e, h.v0] at this; omega
  · exact e
theorem ptI_zero {l : List (Int × Int)} (h : PtsOk l) : ptI l 0 = 0 := by
  unfold ptI
  obtain ⟨m, hm⟩ : ∃ m, l.length = m + 1 := ⟨l.length - 1, by have := h.two; omega⟩
  rw [hm, ixF, if_pos]
  rw [h.v0]; rfl
/-- What a number above 0 lies between. -/
theorem seg_bd {a b : Int × Int} {v : Int} (h1 : a.1 < v) (h2 : v ≤ b.1) (h3 : a.2 < b.2) : 0 < (segQ a b v).2 ∧ a.2 * (segQ a b v).2 < (segQ a b v).1 ∧ (segQ a b v).1 ≤ b.2 * (segQ a b v).2 := by
  unfold segQ
  dsimp only
  have p1 : 0 < (b.2 - a.2) * (v - a.1) := Int.mul_pos (by omega) (by omega)
  have p2 : 0 ≤ (b.2 - a.2) * (b.1 - v) := Int.mul_nonneg (by omega) (by omega)
  have e : b.2 * (b.1 - a.1) - (a.2 * (b.1 - a.1) + (b.2 - a.2) * (v - a.1)) = (b.2 - a.2) * (b.1 - v) := by grind
  exact ⟨by omega, by omega, by omega⟩
/-- The value is that of a quotient with these parts. -/
theorem prQ_seg {l : List (Int × Int)} {v : Int} (_h : PtsOk l) (h0 : 0 < v) (hv : v ≤ capV l) :
    (prQ l v).1 * (segQ (fg l (ptI l v - 1)) (fg l (ptI l v)) v).2 = (segQ (fg l (ptI l v - 1)) (fg l (ptI l v)) v).1 * (prQ l v).2 := by
  unfold prQ
  split
  · rename_i e
    unfold segQ
    dsimp only
    generalize fg l (ptI l v - 1) = a at *
    generalize fg l (ptI l v) = b at *
    subst e
    grind
  · rfl
theorem prQ_zero {l : List (Int × Int)} (h : PtsOk l) : prQ l 0 = ((fg l 0).2, 1) := by
  unfold prQ
  rw [ptI_zero h, if_pos h.v0]
theorem prQ_den {l : List (Int × Int)} {v : Int} (h : PtsOk l) (h0 : 0 ≤ v) (hv : v ≤ capV l) : 1 ≤ (prQ l v).2 ∧ (prQ l v).2 ≤ 200 ∧ 0 ≤ (prQ l v).1 ∧ (prQ l v).1 ≤ 1000 * (prQ l v).2 := by
  have hi := ptI_lt h hv
  have hp := h.prs _ hi
  unfold prQ
  split
  · dsimp only; omega
  · rename_i e
    have hpos : 0 < ptI l v := by
      rcases Nat.eq_zero_or_pos (ptI l v) with e2 | e2
      · have := ptI_ge h hv
        rw [e2, h.v0] at this
        have : v = 0 := by omega
        subst this
        rw [ptI_zero h] at e
        exact absurd h.v0 e
      · exact e2
    have h1 := ptI_gt (l := l) (v := v) (j := ptI l v - 1) (by omega)
    have h2 := ptI_ge h hv
    have h3 := h.up (ptI l v - 1) (by omega)
    rw [show ptI l v - 1 + 1 = ptI l v by omega] at h3
    obtain ⟨b1, b2, b3⟩ := seg_bd h1 h2 h3.2
    have hv1 := h.vol _ hi
    have hv2 := h.vol (ptI l v - 1) (by omega)
    have hp2 := h.prs (ptI l v - 1) (by omega)
    have hd : (segQ (fg l (ptI l v - 1)) (fg l (ptI l v)) v).2 = (fg l (ptI l v)).1 - (fg l (ptI l v - 1)).1 := rfl
    generalize segQ (fg l (ptI l v - 1)) (fg l (ptI l v)) v = s at *
    have q1 : 0 ≤ (fg l (ptI l v - 1)).2 * s.2 := Int.mul_nonneg hp2.1 (by omega)
    have q2 : (fg l (ptI l v)).2 * s.2 ≤ 1000 * s.2 := Int.mul_le_mul_of_nonneg_right hp.2 (by omega)
    omega
/-- A greater number has a greater value. -/
theorem prQ_up {l : List (Int × Int)} {v u : Int} (h : PtsOk l) (h0 : 0 ≤ v) (hvu : v < u) (hu : u ≤ capV l) : (prQ l v).1 * (prQ l u).2 < (prQ l u).1 * (prQ l v).2 := by
  have dv := (prQ_den h h0 (by omega : v ≤ capV l)).1
  have du := (prQ_den h (by omega) hu).1
  have su := prQ_seg h (by omega : 0 < u) hu
  have iu := ptI_lt h hu
  have pu := ptI_pos h (by omega) hu
  have gu := ptI_gt (l := l) (v := u) (j := ptI l u - 1) (by omega)
  have hu2 := ptI_ge h hu
  have upu := h.up (ptI l u - 1) (by omega)
  rw [show ptI l u - 1 + 1 = ptI l u by omega] at upu
  obtain ⟨b1, b2, b3⟩ := seg_bd gu hu2 upu.2
  -- the value at u is above that of the point before it
  have key : (fg l (ptI l u - 1)).2 * (prQ l u).2 < (prQ l u).1 := by
    generalize segQ (fg l (ptI l u - 1)) (fg l (ptI l u)) u = s at *
    generalize prQ l u = q at *
    generalize (fg l (ptI l u - 1)).2 = y at *
    have e1 : y * s.2 * q.2 < s.1 * q.2 := Int.mul_lt_mul_of_pos_right b2 (by omega)
    rw [← su] at e1
    have e2 : y * s.2 * q.2 = y * q.2 * s.2 := by grind
    rw [e2] at e1
    exact Int.lt_of_mul_lt_mul_right e1 (by omega)
  by_cases hv0 : v = 0
  · subst hv0
    rw [prQ_zero h]
    dsimp only
    have := h.leP (i := 0) (j := ptI l u - 1) (Nat.zero_le _) (by omega)
    have := Int.mul_le_mul_of_nonneg_right this (show 0 ≤ (prQ l u).2 by omega)
    omega
  · have sv := prQ_seg h (by omega : 0 < v) (by omega : v ≤ capV l)
    have iv := ptI_lt h (by omega : v ≤ capV l)
    have pv := ptI_pos h (by omega) (by omega : v ≤ capV l)
    have gv := ptI_gt (l := l) (v := v) (j := ptI l v - 1) (by omega)
    have hv2 := ptI_ge h (by omega : v ≤ capV l)
    have upv := h.up (ptI l v - 1) (by omega)
    rw [show ptI l v - 1 + 1 = ptI l v by omega] at upv
    obtain ⟨c1, c2, c3⟩ := seg_bd gv hv2 upv.2
    by_cases hij : ptI l v = ptI l u
    · rw [hij] at sv c1 gv hv2 upv
      have hlt : (segQ (fg l (ptI l u - 1)) (fg l (ptI l u)) v).1 < (segQ (fg l (ptI l u - 1)) (fg l (ptI l u)) u).1 := by
        unfold segQ
        dsimp only
        have p1 : 0 < ((fg l (ptI l u)).2 - (fg l (ptI l u - 1)).2) * (u - v) := Int.mul_pos (by omega) (by omega)
        generalize fg l (ptI l u) = b at *
        generalize fg l (ptI l u - 1) = a at *
        have e : (b.2 - a.2) * (u - a.1) - (b.2 - a.2) * (v - a.1) = (b.2 - a.2) * (u - v) := by grind
        omega
      have hd : (segQ (fg l (ptI l u - 1)) (fg l (ptI l u)) v).2 = (segQ (fg l (ptI l u - 1)) (fg l (ptI l u)) u).2 := rfl
      generalize segQ (fg l (ptI l u - 1)) (fg l (ptI l u)) v = s at *
      generalize segQ (fg l (ptI l u - 1)) (fg l (ptI l u)) u = t at *
      generalize prQ l u = q at *
      generalize prQ l v = p at *
      -- p = s/t.2, q = t.1/t.2
      rw [hd] at sv
      have e1 : s.1 * (p.2 * q.2) < t.1 * (p.2 * q.2) := Int.mul_lt_mul_of_pos_right hlt (Int.mul_pos (by omega) (by omega))
      have e2 : s.1 * (p.2 * q.2) = p.1 * q.2 * t.2 := by rw [← Int.mul_assoc, ← sv]; grind
      have e3 : t.1 * (p.2 * q.2) = q.1 * p.2 * t.2 := by rw [Int.mul_comm p.2, ← Int.mul_assoc, ← su]; grind
      rw [e2, e3] at e1
      exact Int.lt_of_mul_lt_mul_right e1 (by omega)
    · have hlt : ptI l v < ptI l u := by
        rcases Nat.lt_or_ge (ptI l v) (ptI l u) with h1 | h1
        · exact h1
        · have := ptI_gt (l := l) (v := v) (j := ptI l u) (by omega)
          omega
      have hle := h.leP (i := ptI l v) (j := ptI l u - 1) (by omega) (by omega)
      -- the value at v is at most that of its point
      have key2 : (prQ l v).1 ≤ (fg l (ptI l v)).2 * (prQ l v).2 := by
        generalize segQ (fg l (ptI l v - 1)) (fg l (ptI l v)) v = s at *
        generalize prQ l v = q at *
        generalize (fg l (ptI l v)).2 = y at *
        have e1 : s.1 * q.2 ≤ y * s.2 * q.2 := Int.mul_le_mul_of_nonneg_right c3 (by omega)
        rw [← sv] at e1
        have e2 : y * s.2 * q.2 = y * q.2 * s.2 := by grind
        rw [e2] at e1
        exact Int.le_of_mul_le_mul_right e1 (by omega)
      generalize prQ l u = q at *
      generalize prQ l v = p at *
      generalize (fg l (ptI l v)).2 = y at *
      generalize (fg l (ptI l u - 1)).2 = z at *
      have e1 : p.1 * q.2 ≤ y * p.2 * q.2 := Int.mul_le_mul_of_nonneg_right key2 (by omega)
      have e2 : y * (p.2 * q.2) ≤ z * (p.2 * q.2) := Int.mul_le_mul_of_nonneg_right hle (Int.mul_nonneg (by omega) (by omega))
      have e3 : z * q.2 * p.2 < q.1 * p.2 := Int.mul_lt_mul_of_pos_right key (by omega)
      have e4 : y * p.2 * q.2 = y * (p.2 * q.2) := by grind
      have e5 : z * q.2 * p.2 = z * (p.2 * q.2) := by grind
      omega

/-- The reference's value of the line. -/
def rSeg (a b : Int × Int) (v : Int) : Int × Int := rAdd (a.2, 1) (fr ((b.2 - a.2) * (v - a.1)) (b.1 - a.1))
def rPrI (l : List (Int × Int)) (v : Int) : Nat := ixF (fun j => decide (v ≤ (fg l j).1)) 1 (l.length - 1)
def rPr (l : List (Int × Int)) (v : Int) : Int × Int := if rPrI l v < l.length then rSeg (fg l (rPrI l v - 1)) (fg l (rPrI l v)) v else (0, 1)
theorem rSeg_eq {a b : Int × Int} (v : Int) (h : a.1 < b.1) : rSeg a b v = fr (segQ a b v).1 (segQ a b v).2 := by
  unfold rSeg rAdd segQ
  dsimp only
  have hD : 0 < b.1 - a.1 := by omega
  have h1 := fr_mul (n := (b.2 - a.2) * (v - a.1)) hD
  have h2 := fr_pos (n := (b.2 - a.2) * (v - a.1)) hD
  generalize fr ((b.2 - a.2) * (v - a.1)) (b.1 - a.1) = f at *
  refine fr_eq (by omega) hD ?_
  generalize b.1 - a.1 = D at *
  generalize (b.2 - a.2) * (v - a.1) = M at *
  grind
theorem rPr_eq {l : List (Int × Int)} {v : Int} (h : PtsOk l) (h0 : 0 ≤ v) (hv : v ≤ capV l) : rPr l v = fr (prQ l v).1 (prQ l v).2 := by
  have h2 := h.two
  by_cases hv0 : v = 0
  · subst hv0
    rw [prQ_zero h]
    have hi : rPrI l 0 = 1 := by
      unfold rPrI
      obtain ⟨m, hm⟩ : ∃ m, l.length - 1 = m + 1 := ⟨l.length - 2, by omega⟩
      rw [hm, ixF, if_pos]
      exact decide_eq_true (h.vol 1 (by omega)).1
    have hu := h.up 0 (by omega)
    unfold rPr
    rw [hi, if_pos (by omega), rSeg_eq _ (by exact hu.1)]
    show fr (segQ (fg l 0) (fg l 1) 0).1 (segQ (fg l 0) (fg l 1) 0).2 = _
    unfold segQ
    dsimp only
    rw [h.v0]
    have := hu.1
    rw [h.v0] at this
    refine fr_eq (by simp only [Nat.zero_add] at this; omega) (by decide) ?_
    grind
  · have hi : rPrI l v = ptI l v := by
      unfold rPrI ptI
      have := ixF_step (p := fun j => decide (v ≤ (fg l j).1)) (k := 0) (n := l.length) (by omega) (decide_eq_false (by rw [h.v0]; omega))
      rw [Nat.sub_zero] at this
      rw [this]
    have iv := ptI_lt h hv
    have pv := ptI_pos h (by omega) hv
    have gv := ptI_gt (l := l) (v := v) (j := ptI l v - 1) (by omega)
    have hv2 := ptI_ge h hv
    unfold rPr
    rw [hi, if_pos iv, rSeg_eq _ (by omega)]
    have hd := (prQ_den h h0 hv).1
    refine fr_eq (by show 0 < (fg l (ptI l v)).1 - (fg l (ptI l v - 1)).1; omega) (by omega) ?_
    have := prQ_seg h (by omega) hv
    rw [this]
end
end Go.Proofs.YtjfedpblkejmkaaGreat
