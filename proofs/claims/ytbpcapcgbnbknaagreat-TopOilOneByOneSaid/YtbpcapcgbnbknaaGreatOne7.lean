/-
  Texts of this claim, in their build order: Lib11 Z1 U1 Q1 P2.
-/
import Derived.Test.YtbpcapcgbnbknaaGreatOne6
import Derived.Test.YtbpcapcgbnbknaaGreatOne5
import Derived.Test.YtbpcapcgbnbknaaGreatOne3
import Derived.Lib.AppendZerosOnto

namespace Go.Proofs.YtbpcapcgbnbknaaGreat
section
open Go.RowKit

section
variable {P : Program} {N m : Nat} {ops : Array Oper} {Q : Exit → Act → World → Prop}

def wpE (P : Program) (N m : Nat) (ops : Array Oper) (Q : Exit → Act → World → Prop) : Nat → Array Bool → Act → World → Prop
  | 0, listed, a, w => Region.ready .any ops listed = [] ∧ Q .normal a w
  | f + 1, listed, a, w =>
    (Region.ready .any ops listed = [] → Q .normal a w) ∧
    ∀ i ∈ Region.ready .any ops listed, wpOp P ops Q i (fun a' w' => (i < m → Below N w w') ∧ wpE P N m ops Q f (listed.setIfInBounds i true) a' w') a w
theorem wpAny_of_wpE : ∀ (f : Nat) (listed : Array Bool) (a : Act) (w : World), wpE P N m ops Q f listed a w → wpAny P .any ops Q f listed a w
  | 0, _, _, _, h => h
  | f + 1, _, _, _, h => ⟨h.1, fun i hi => wpOp_mono (fun a' w' h' => wpAny_of_wpE f _ a' w' h'.2) (h.2 i hi)⟩

theorem wpE_first {i : Nat} {oi : Oper} {v : Value} (hi : ops[i]? = some oi) (hsel : ∀ (j : Nat) (o : Oper) cs b, ops[j]? = some o → o.op ≠ .select cs b)
    (hs : Region.sinkB .any ops m = true) (hc : Region.chainB .any ops m = true) (hm : m < ops.size) (him : i < m)
    (hQ : ∀ c a w, Q (.panic c) (a.put oi.dst v) w → Q (.panic c) a w) :
    ∀ (fuel : Nat) (listed : Array Bool) (a : Act) (w : World), HeadInv .any ops m listed →
      (∀ j oj, ops[j]? = some oj → j ≠ i → listed.getD j true = false → (∀ e ∈ oj.after, Region.binds .any e = true → e.on ≠ i) → oi.apart ops oj = true) →
      i ∈ Region.ready .any ops listed → Y2 P N ops oi v a w →
      wpE P N m ops Q fuel (listed.setIfInBounds i true) (a.put oi.dst v) w → wpE P N m ops Q (fuel + 1) listed a w := by
  intro fuel
  induction fuel with
  | zero =>
    intro listed a w _ _ hr hy H
    refine ⟨fun h => (by rw [h] at hr; cases hr), fun j hj => ?_⟩
    by_cases hji : j = i
    · subst hji; exact hy.wpOp hi ⟨fun _ => Below.refl _ _, H⟩
    · have := ready_mono hj hji
      rw [H.1] at this
      cases this
  | succ fuel ih =>
    intro listed a w inv hfree hr hy H
    refine ⟨fun h => (by rw [h] at hr; cases hr), fun j hj => ?_⟩
    have hun := (mem_ready.1 hr).1
    by_cases hji : j = i
    · subst hji; exact hy.wpOp hi ⟨fun _ => Below.refl _ _, H⟩
    · have hjm : j < m := by
        rcases Nat.lt_or_ge j m with h | h
        · exact h
        · exact absurd hj (tail_waits hs hc hm inv _ i rfl him hun j h)
      have h1 := wpOp_mono (fun a' w' (h : (j < m → Below N w w') ∧ _) => (⟨h.1 hjm, h.2⟩ : Below N w w' ∧ _)) (H.2 j (ready_mono hj hji))
      obtain ⟨hjun, oj, hoj, hall⟩ := mem_ready.1 hj
      have hnot : ∀ e ∈ oj.after, Region.binds .any e = true → e.on ≠ i := fun e he hb heq => by
        have h1 := hall e he hb
        rw [heq, getD_both hun] at h1
        cases h1
      have h2 := wpOp_put2 hoj (hfree j oj hoj hji hjun hnot) (fun cs b => hsel i oi cs b hi) (fun cs b => hsel j oj cs b hoj) hQ hy h1
      have hfree' : ∀ k ok, ops[k]? = some ok → k ≠ i → (listed.setIfInBounds j true).getD k true = false →
          (∀ e ∈ ok.after, Region.binds .any e = true → e.on ≠ i) → oi.apart ops ok = true := fun k ok hk hki hun hno => by
        refine hfree k ok hk hki ?_ hno
        by_cases hjk : j = k
        · subst hjk; exact hjun
        · rw [getD_set_ne true hjk] at hun; exact hun
      refine wpOp_mono (fun a' w' h3 => ⟨fun _ => h3.1, ih (listed.setIfInBounds j true) a' w' (inv.set hj hjm) hfree' (ready_mono hr (Ne.symm hji)) h3.2.1 ?_⟩) h2
      rw [Array.setIfInBounds_comm _ _ hji]
      exact h3.2.2
end

section
variable {P : Program} {N m : Nat} {l : List Oper} {Q : Exit → Act → World → Prop}

/-- Do the operations from m on wait for all before, each for the one ahead? -/
def tailB (l : List Oper) (m : Nat) : Bool := Region.noSelect l.toArray && decide (m < l.toArray.size) && Region.sinkB .any l.toArray m && Region.chainB .any l.toArray m

/-- A walk over the orders that matter, of a region whose last operations may store anywhere. -/
structure WE (P : Program) (N m : Nat) (l : List Oper) (Q : Exit → Act → World → Prop) (f : Nat) (listed : Array Bool) (a : Act) (w : World) : Prop where
  out : HeadInv .any l.toArray m listed ∧ tailB l m = true → wpE P N m l.toArray Q f listed a w
theorem headSet {ops : Array Oper} {n i : Nat} {listed : Array Bool} (inv : HeadInv .any ops n listed) (hi : (Region.ready .any ops listed).contains i = true) (hin : i < n) : HeadInv .any ops n (listed.setIfInBounds i true) :=
  inv.set (by simpa using hi) hin
theorem WE_yes {f : Nat} {listed : Array Bool} {a : Act} {w : World} (i : Nat) {o : Oper} (hi : l[i]? = some o) (hB : (decide (i < m) && (Region.ready .any l.toArray listed).contains i && Region.free .any l.toArray listed i) = true)
    (hQ : ∀ c d v a w, Q (.panic c) (a.put (some d) v) w → Q (.panic c) a w) (hw : Region.wanted o (yielded l.toArray a.tmps) = true)
    (h : ∃ v, (∀ w', Below N w w' → o.quietAt P a (fun w'' => w'' = w') w' v) ∧ WE P N m l Q f (listed.setIfInBounds i true) (a.put o.dst v) w) : WE P N m l Q (f + 1) listed a w := by
  obtain ⟨v, hv, hn⟩ := h
  simp only [Bool.and_eq_true, decide_eq_true_eq] at hB
  have h0 : l.toArray[i]? = some o := by simpa using hi
  refine ⟨fun ⟨inv, ht⟩ => ?_⟩
  have ht2 := ht
  simp only [tailB, Bool.and_eq_true, decide_eq_true_eq] at ht2
  refine wpE_first h0 (Region.noSelect_spec ht2.1.1.1) ht2.1.2 ht2.2 ht2.1.1.2 hB.1.1 (fun c a w => ?_) _ _ _ _ inv (Region.free_spec h0 hB.2) (by simpa using hB.1.2) (.inl ⟨hw, hv⟩) (hn.out ⟨headSet inv hB.1.2 hB.1.1, ht⟩)
  cases hd : o.dst with
  | none => exact fun h => h
  | some d => exact hQ c d v a w
/-- What is asked of one operation that comes up. -/
def stepE (P : Program) (N m : Nat) (l : List Oper) (Q : Exit → Act → World → Prop) (f i : Nat) (listed : Array Bool) (o : Oper) (a : Act) (w : World) : Prop :=
  wpList P l.toArray (MidQ (fun a' w' => Below N w w' ∧ WE P N m l Q f (listed.setIfInBounds i true) a' w') Q) [o] a w
theorem stepE.op {f i : Nat} {listed : Array Bool} {o : Oper} {a : Act} {w : World} (hi : l[i]? = some o) (him : i < m) (hr : i ∈ Region.ready .any l.toArray listed) (inv : HeadInv .any l.toArray m listed) (ht : tailB l m = true) (h : stepE P N m l Q f i listed o a w) :
    wpOp P l.toArray Q i (fun a' w' => (i < m → Below N w w') ∧ wpE P N m l.toArray Q f (listed.setIfInBounds i true) a' w') a w :=
  wpOp_mono (fun _ _ h' => ⟨fun _ => h'.1, h'.2.out ⟨inv.set hr him, ht⟩⟩) (wpOp_of_mid (by simpa using hi) h)
theorem WE_one {f : Nat} {listed : Array Bool} {a : Act} {w : World} (i : Nat) {o : Oper} (hi : l[i]? = some o) (him : i < m) (hr : Region.ready .any l.toArray listed = [i]) (h : stepE P N m l Q f i listed o a w) : WE P N m l Q (f + 1) listed a w := by
  refine ⟨fun ⟨inv, ht⟩ => ⟨fun h1 => (by rw [hr] at h1; cases h1), fun j hj => ?_⟩⟩
  have hj' := hj
  rw [hr] at hj
  have : j = i := by simpa using hj
  subst this
  exact h.op hi him hj' inv ht
theorem WE_two {f : Nat} {listed : Array Bool} {a : Act} {w : World} (i j : Nat) {o p : Oper} (hi : l[i]? = some o) (hj : l[j]? = some p) (him : i < m) (hjm : j < m) (hr : Region.ready .any l.toArray listed = [i, j]) (h : stepE P N m l Q f i listed o a w) (h' : stepE P N m l Q f j listed p a w) : WE P N m l Q (f + 1) listed a w := by
  refine ⟨fun ⟨inv, ht⟩ => ⟨fun h1 => (by rw [hr] at h1; cases h1), fun k hk => ?_⟩⟩
  have hk' := hk
  rw [hr] at hk
  simp only [List.mem_cons, List.not_mem_nil, or_false] at hk
  rcases hk with rfl | rfl
  · exact h.op hi him hk' inv ht
  · exact h'.op hj hjm hk' inv ht

theorem wpE_of_seq : ∀ (r : List Oper) (k : Nat) (listed : Array Bool) (a : Act) (w : World), m ≤ k → (∀ j, r[j]? = l.toArray[k + j]?) →
    Region.seqB .any l.toArray r.length k listed = true → wpList P l.toArray Q r a w → wpE P N m l.toArray Q r.length listed a w
  | [], _, _, _, _, _, _, hB, h => ⟨by simpa [Region.seqB] using hB, h⟩
  | o :: r, k, listed, a, w, hk, hl, hB, h => by
    have h0 : l.toArray[k]? = some o := by simpa using (hl 0).symm
    simp only [List.length_cons, Region.seqB, Bool.and_eq_true, decide_eq_true_eq] at hB
    refine ⟨fun h1 => (by rw [hB.1] at h1; cases h1), fun i hi => ?_⟩
    rw [hB.1] at hi
    have hik : i = k := by simpa using hi
    subst hik
    have hw : wpOp P l.toArray Q i (wpList P l.toArray Q r) a w := by unfold wpOp; simp only [h0]; exact h
    exact wpOp_mono (fun a' w' h' => ⟨fun hlt => absurd hlt (by omega), wpE_of_seq r (i + 1) _ a' w' (by omega) (fun j => by have := hl (j + 1); simpa [Nat.add_assoc, Nat.add_comm 1 j] using this) hB.2 h'⟩) hw
/-- The operations from m on, in their forced order. -/
theorem WE_tail {f : Nat} {listed : Array Bool} {a : Act} {w : World} (hf : (l.drop m).length = f) (hB : Region.seqB .any l.toArray (l.drop m).length m listed = true) (h : wpList P l.toArray Q (l.drop m) a w) : WE P N m l Q f listed a w := by
  subst hf
  exact ⟨fun _ => wpE_of_seq (l.drop m) m listed a w (Nat.le_refl _) (fun j => by simp [List.getElem?_drop]) hB h⟩
theorem wp_region_treeT {id : Nat} {a : Act} {w : World} (m : Nat) (hm : P.follows .mixedOrders = true) (hB : tailB l m = true)
    (h : ∀ w', Below w.heap.size w w' → WE P w.heap.size m l Q l.length (Array.replicate l.length false) a w') : (Code.region id l.toArray true).wp P Q a w := by
  refine wp_region_any hm (wpAny_of_wpE (N := w.heap.size) (m := m) _ _ _ _ ?_)
  have inv0 : HeadInv .any l.toArray m (Array.replicate l.length false) :=
    ⟨by simp, fun j oj _ hl => (by rw [getD_replicate_false] at hl; cases hl), fun t _ ht => getD_in (by simpa using ht) (getD_replicate_false _ _)⟩
  have := (h { w with drawn := w.drawn + 1 } (Below.refl _ _).drew).out ⟨inv0, hB⟩
  simpa using this
end
end
section
open Go.RowKit

theorem Reads.newsF {W : World} {ad : Addr} {ms : List (Int × Int)} (h : Reads W (some ad) (ms.length * 2) (fracs ms)) :
    ∀ j u, (fcells ms)[j]? = some u → W.cell? (ad.add j) = some u := by
  intro j u hj
  have hjl : j < ms.length * 2 := by rw [← fcells_len]; exact (List.getElem?_eq_some_iff.1 hj).1
  obtain ⟨b, off, e, hb, hc⟩ := h.at hjl
  cases e
  have e : (⟨b, off, none⟩ : Addr).add j = ⟨b, off + j, none⟩ := by unfold Addr.add; split <;> simp_all
  rw [e, hc j hjl, ← hj, fcells_get ms j hjl]
theorem onesF (l : List (Int × Int)) : ∀ u ∈ fcells l, u.oneCell' = true := by
  intro u hu
  obtain ⟨p, _, hp⟩ := List.mem_flatMap.1 hu
  simp only [List.mem_cons, List.not_mem_nil, or_false] at hp
  rcases hp with rfl | rfl <;> rfl
end
section
open Go.RowKit

/-- The error of a chain and a node. -/
def ndE (ks fs : List Int) (node : Int) : Int := firstE [(chkC ks fs).2, unl (decide (0 ≤ node) && decide (node ≤ (ks.length : Int) - 1)) 6]
end
section
open Go.RowKit

abbrev Fl := List (Int × Int)
def mvO (ks fs : List Int) : Option Fl := movO ks fs ks.length 0 (0, 1)
def hvR (ks fs : List Int) (node : Int) : (Fl × Fl × Int) × Int :=
  if ndE ks fs node ≠ 0 then (([], [], 0), ndE ks fs node) else match mvO ks fs with | none => (([], [], 0), 8) | some l => ((l.take (node.toNat + 1), l.drop (node.toNat + 1), (fs.drop (node.toNat + 1)).sum), 0)
end
section
open Go.RowKit

/-- What is so of true displacements. -/
structure Mvd (ks fs : List Int) (l : List (Int × Int)) (L : Int) : Prop where
  ok : ChOk ks fs
  len : l.length = ks.length
  L0 : 0 < L
  div : ∀ k, k < ks.length → gi ks k ∣ L
  at' : ∀ k, k < ks.length → fg l k = fr (refN ks fs L (k + 1)) L
  fit : ∀ k, k < ks.length → fits (fg l k) = true
theorem fr_low (n : Int) {m : Int} (hm : 0 < m) : Int.gcd (fr n m).1 (fr n m).2 = 1 := by
  obtain ⟨g, a, b, hg, hb, h1, h2, h3, h4⟩ := fr_ex (n := n) hm
  rw [h3]
  dsimp only
  have e : Int.gcd n m = g.natAbs * Int.gcd a b := by rw [h1, h2, Int.gcd_mul_left]
  have hgn : (g.natAbs : Int) = g := by omega
  have h5 : Int.gcd n m = g.natAbs := by omega
  have h6 : g.natAbs * Int.gcd a b = g.natAbs * 1 := by omega
  exact Nat.eq_of_mul_eq_mul_left (by omega) h6
theorem fr_id {n m : Int} (h : Int.gcd n m = 1) : fr n m = (n, m) := by
  unfold fr; rw [h]; simp
theorem lowB_fr (n : Int) {m : Int} (hm : 0 < m) : lowB (fr n m).1 (fr n m).2 = true := by
  unfold lowB
  rw [fr_low n hm, decide_eq_true (fr_pos hm)]
  rfl
theorem Mvd.low {ks fs : List Int} {l : List (Int × Int)} {L : Int} (h : Mvd ks fs l L) {k : Nat} (hk : k < ks.length) : lowB (fg l k).1 (fg l k).2 = true := by
  rw [h.at' k hk]; exact lowB_fr _ h.L0
end
end Go.Proofs.YtbpcapcgbnbknaaGreat
