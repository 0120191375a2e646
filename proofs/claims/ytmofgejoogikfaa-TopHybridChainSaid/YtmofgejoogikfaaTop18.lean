/-
  Texts of this claim, in their build order: Lib11 Z1 Z3.
-/
import Derived.Test.YtmofgejoogikfaaTop17
import Derived.Test.YtmofgejoogikfaaTop15
import Derived.Test.YtmofgejoogikfaaTop7

/-
  A region that draws its order and whose last operations store: the first m operations keep what lies below N, in whatever order; the others wait for all of them. No program in sight.
-/
namespace Go.Proofs.Ytmofgejoogikfaa
open Go.RowKit

section
variable {P : Program} {N m : Nat} {ops : Array Oper} {Q : Exit → Act → World → Prop}

def wpE (P : Program) (N m : Nat) (ops : Array Oper) (Q : Exit → Act → World → Prop) : Nat → Array Bool → Act → World → Prop
  | 0, listed, a, w => Region.ready .any ops listed = [] ∧ Q .normal a w
  | f + 1, listed, a, w =>
    (Region.ready .any ops listed = [] → Q .normal a w) ∧
    ∀ i ∈ Region.ready .any ops listed, wpOp P ops Q i (fun a' w' => (i < m → Below N w w') ∧ wpE P N m ops Q f (listed.setIfInBounds i true) a' w') a w
theorem wpAny_of_wpE : ∀ (f : Nat) (listed : Array Bool) (a : Act) (w : World), wpE P N m ops Q f listed a w → wpAny P .any ops Q f listed a w
  | 0, _, _, _, h => h
  | f + 1, _, _, _, h => ⟨h.1, fun i hi => wpOp_mono (fun a' w' h' => wpAny_of_wpE f _ a' w' h'.2) (h.2 i hi)⟩

theorem wpE_first {i : Nat} {oi : Oper} {v : Value} (hi : ops[i]? = some oi) (hsel : ∀ (j : Nat) (o : Oper) cs b, ops[j]? = some o → o.op ≠ .select cs b)
    (hs : Region.sinkB .any ops m = true) (hc : Region.chainB .any ops m = true) (hm : m < ops.size) (him : i < m)
    (hQ : ∀ c a w, Q (.panic c) (a.put oi.dst v) w → Q (.panic c) a w) :
    ∀ (fuel : Nat) (listed : Array Bool) (a : Act) (w : World), HeadInv .any ops m listed →
      (∀ j oj, ops[j]? = some oj → j ≠ i → listed.getD j true = false → (∀ e ∈ oj.after, Region.binds .any e = true → e.on ≠ i) → oi.apart ops oj = true) →
      i ∈ Region.ready .any ops listed → Y2 P N ops oi v a w →
      wpE P N m ops Q fuel (listed.setIfInBounds i true) (a.put oi.dst v) w → wpE P N m ops Q (fuel + 1) listed a w := by
  intro fuel
  induction fuel with
  | zero =>
    intro listed a w _ _ hr hy H
    refine ⟨fun h => (by rw [h] at hr; cases hr), fun j hj => ?_⟩
    by_cases hji : j = i
    · subst hji; exact hy.wpOp hi ⟨fun _ => Below.refl _ _, H⟩
    · have := ready_mono hj hji
      rw [H.1] at this
      cases this
  | succ fuel ih =>
    intro listed a w inv hfree hr hy H
    refine ⟨fun h => (by rw [h] at hr; cases hr), fun j hj => ?_⟩
    have hun := (mem_ready.1 hr).1
    by_cases hji : j = i
    · subst hji; exact hy.wpOp hi ⟨fun _ => Below.refl _ _, H⟩
    · have hjm : j < m := by
        rcases Nat.lt_or_ge j m with h | h
        · exact h
        · exact absurd hj (tail_waits hs hc hm inv _ i rfl him hun j h)
      have h1 := wpOp_mono (fun a' w' (h : (j < m → Below N w w') ∧ _) => (⟨h.1 hjm, h.2⟩ : Below N w w' ∧ _)) (H.2 j (ready_mono hj hji))
      obtain ⟨hjun, oj, hoj, hall⟩ := mem_ready.1 hj
      have hnot : ∀ e ∈ oj.after, Region.binds .any e = true → e.on ≠ i := fun e he hb heq => by
        have h1 := hall e he hb
        rw [heq, getD_both hun] at h1
        cases h1
      have h2 := wpOp_put2 hoj (hfree j oj hoj hji hjun hnot) (fun cs b => hsel i oi cs b hi) (fun cs b => hsel j oj cs b hoj) hQ hy h1
      have hfree' : ∀ k ok, ops[k]? = some ok → k ≠ i → (listed.setIfInBounds j true).getD k true = false →
          (∀ e ∈ ok.after, Region.binds .any e = true → e.on ≠ i) → oi.apart ops ok = true := fun k ok hk hki hun hno => by
        refine hfree k ok hk hki ?_ hno
        by_cases hjk : j = k
        · subst hjk; exact hjun
        · rw [getD_set_ne true hjk] at hun; exact hun
      refine wpOp_mono (fun a' w' h3 => ⟨fun _ => h3.1, ih (listed.setIfInBounds j true) a' w' (inv.set hj hjm) hfree' (ready_mono hr (Ne.symm hji)) h3.2.1 ?_⟩) h2
      rw [Array.setIfInBounds_comm _ _ hji]
      exact h3.2.2
end

section
variable {P : Program} {N m : Nat} {l : List Oper} {Q : Exit → Act → World → Prop}

/-- Do the operations from m on wait for all before, each for the one ahead? -/
def tailB (l : List Oper) (m : Nat) : Bool := Region.noSelect l.toArray && decide (m < l.toArray.size) && Region.sinkB .any l.toArray m && Region.chainB .any l.toArray m

/-- A walk over the orders that matter, of a region whose last operations may store anywhere. -/
structure WE (P : Program) (N m : Nat) (l : List Oper) (Q : Exit → Act → World → Prop) (f : Nat) (listed : Array Bool) (a : Act) (w : World) : Prop where
  out : HeadInv .any l.toArray m listed ∧ tailB l m = true → wpE P N m l.toArray Q f listed a w
theorem headSet {ops : Array Oper} {n i : Nat} {listed : Array Bool} (inv : HeadInv .any ops n listed) (hi : (Region.ready .any ops listed).contains i = true) (hin : i < n) : HeadInv .any ops n (listed.setIfInBounds i true) :=
  inv.set (by simpa using hi) hin
theorem WE_yes {f : Nat} {listed : Array Bool} {a : Act} {w : World} (i : Nat) {o : Oper} (hi : l[i]? = some o) (hB : (decide (i < m) && (Region.ready .any l.toArray listed).contains i && Region.free .any l.toArray listed i) = true)
    (hQ : ∀ c d v a w, Q (.panic c) (a.put (some d) v) w → Q (.panic c) a w) (hw : Region.wanted o (yielded l.toArray a.tmps) = true)
    (h : ∃ v, (∀ w', Below N w w' → o.quietAt P a (fun w'' => w'' = w') w' v) ∧ WE P N m l Q f (listed.setIfInBounds i true) (a.put o.dst v) w) : WE P N m l Q (f + 1) listed a w := by
  obtain ⟨v, hv, hn⟩ := h
  simp only [Bool.and_eq_true, decide_eq_true_eq] at hB
  have h0 : l.toArray[i]? = some o := by simpa using hi
  refine ⟨fun ⟨inv, ht⟩ => ?_⟩
  have ht2 := ht
  simp only [tailB, Bool.and_eq_true, decide_eq_true_eq] at ht2
  refine wpE_first h0 (Region.noSelect_spec ht2.1.1.1) ht2.1.2 ht2.2 ht2.1.1.2 hB.1.1 (fun c a w => ?_) _ _ _ _ inv (Region.free_spec h0 hB.2) (by simpa using hB.1.2) (.inl ⟨hw, hv⟩) (hn.out ⟨headSet inv hB.1.2 hB.1.1, ht⟩)
  cases hd : o.dst with
  | none => exact fun h => h
  | some d => exact hQ c d v a w
/-- What is asked of one operation that comes up. -/
def stepE (P : Program) (N m : Nat) (l : List Oper) (Q : Exit → Act → World → Prop) (f i : Nat) (listed : Array Bool) (o : Oper) (a : Act) (w : World) : Prop :=
  wpList P l.toArray (MidQ (fun a' w' => Below N w w' ∧ WE P N m l Q f (listed.setIfInBounds i true) a' w') Q) [o] a w
theorem stepE.op {f i : Nat} {listed : Array Bool} {o : Oper} {a : Act} {w : World} (hi : l[i]? = some o) (him : i < m) (hr : i ∈ Region.ready .any l.toArray listed) (inv : HeadInv .any l.toArray m listed) (ht : tailB l m = true) (h : stepE P N m l Q f i listed o a w) :
    wpOp P l.toArray Q i (fun a' w' => (i < m → Below N w w') ∧ wpE P N m l.toArray Q f (listed.setIfInBounds i true) a' w') a w :=
  wpOp_mono (fun _ _ h' => ⟨fun _ => h'.1, h'.2.out ⟨inv.set hr him, ht⟩⟩) (wpOp_of_mid (by simpa using hi) h)
theorem WE_one {f : Nat} {listed : Array Bool} {a : Act} {w : World} (i : Nat) {o : Oper} (hi : l[i]? = some o) (him : i < m) (hr : Region.ready .any l.toArray listed = [i]) (h : stepE P N m l Q f i listed o a w) : WE P N m l Q (f + 1) listed a w := by
  refine ⟨fun ⟨inv, ht⟩ => ⟨fun h1 => (by rw [hr] at h1; cases h1), fun j hj => ?_⟩⟩
  have hj' := hj
  rw [hr] at hj
  have : j = i := by simpa using hj
  subst this
  exact h.op hi him hj' inv ht
theorem WE_two {f : Nat} {listed : Array Bool} {a : Act} {w : World} (i j : Nat) {o p : Oper} (hi : l[i]? = some o) (hj : l[j]? = some p) (him : i < m) (hjm : j < m) (hr : Region.ready .any l.toArray listed = [i, j]) (h : stepE P N m l Q f i listed o a w) (h' : stepE P N m l Q f j listed p a w) : WE P N m l Q (f + 1) listed a w := by
  refine ⟨fun ⟨inv, ht⟩ => ⟨fun h1 => (by rw [hr] at h1; cases h1), fun k hk => ?_⟩⟩
  have hk' := hk
  rw [hr] at hk
  simp only [List.mem_cons, List.not_mem_nil, or_false] at hk
  rcases hk with rfl | rfl
  · exact h.op hi him hk' inv ht
  · exact h'.op hj hjm hk' inv ht

theorem wpE_of_seq : ∀ (r : List Oper) (k : Nat) (listed : Array Bool) (a : Act) (w : World), m ≤ k → (∀ j, r[j]? = l.toArray[k + j]?) →
    Region.seqB .any l.toArray r.length k listed = true → wpList P l.toArray Q r a w → wpE P N m l.toArray Q r.length listed a w
  | [], _, _, _, _, _, _, hB, h => ⟨by simpa [Region.seqB] using hB, h⟩
  | o :: r, k, listed, a, w, hk, hl, hB, h => by
    have h0 : l.toArray[k]? = some o := by simpa using (hl 0).symm
    simp only [List.length_cons, Region.seqB, Bool.and_eq_true, decide_eq_true_eq] at hB
    refine ⟨fun h1 => (by rw [hB.1] at h1; cases h1), fun i hi => ?_⟩
    rw [hB.1] at hi
    have hik : i = k := by simpa using hi
    subst hik
    have hw : wpOp P l.toArray Q i (wpList P l.toArray Q r) a w := by unfold wpOp; simp only [h0]; exact h
    exact wpOp_mono (fun a' w' h' => ⟨fun hlt => absurd hlt (by omega), wpE_of_seq r (i + 1) _ a' w' (by omega) (fun j => by have := hl (j + 1); simpa [Nat.add_assoc, Nat.add_comm 1 j] using this) hB.2 h'⟩) hw
/-- The operations from m on, in their forced order. -/
theorem WE_tail {f : Nat} {listed : Array Bool} {a : Act} {w : World} (hf : (l.drop m).length = f) (hB : Region.seqB .any l.toArray (l.drop m).length m listed = true) (h : wpList P l.toArray Q (l.drop m) a w) : WE P N m l Q f listed a w := by
  subst hf
  exact ⟨fun _ => wpE_of_seq (l.drop m) m listed a w (Nat.le_refl _) (fun j => by simp [List.getElem?_drop]) hB h⟩
theorem wp_region_treeT {id : Nat} {a : Act} {w : World} (m : Nat) (hm : P.follows .mixedOrders = true) (hB : tailB l m = true)
    (h : ∀ w', Below w.heap.size w w' → WE P w.heap.size m l Q l.length (Array.replicate l.length false) a w') : (Code.region id l.toArray true).wp P Q a w := by
  refine wp_region_any hm (wpAny_of_wpE (N := w.heap.size) (m := m) _ _ _ _ ?_)
  have inv0 : HeadInv .any l.toArray m (Array.replicate l.length false) :=
    ⟨by simp, fun j oj _ hl => (by rw [getD_replicate_false] at hl; cases hl), fun t _ ht => getD_in (by simpa using ht) (getD_replicate_false _ _)⟩
  have := (h { w with drawn := w.drawn + 1 } (Below.refl _ _).drew).out ⟨inv0, hB⟩
  simpa using this
end
end Go.Proofs.Ytmofgejoogikfaa

/-
  The reference's copies of chains and halves: CopyFracs, CopyChain, CopyHalves.
-/
namespace Go.Proofs.Ytmofgejoogikfaa
open Go.RowKit

theorem Reads.newsF {W : World} {ad : Addr} {ms : List (Int × Int)} (h : Reads W (some ad) (ms.length * 2) (fracs ms)) :
    ∀ j u, (fcells ms)[j]? = some u → W.cell? (ad.add j) = some u := by
  intro j u hj
  have hjl : j < ms.length * 2 := by rw [← fcells_len]; exact (List.getElem?_eq_some_iff.1 hj).1
  obtain ⟨b, off, e, hb, hc⟩ := h.at hjl
  cases e
  have e : (⟨b, off, none⟩ : Addr).add j = ⟨b, off + j, none⟩ := by unfold Addr.add; split <;> simp_all
  rw [e, hc j hjl, ← hj, fcells_get ms j hjl]
theorem onesF (l : List (Int × Int)) : ∀ u ∈ fcells l, u.oneCell' = true := by
  intro u hu
  obtain ⟨p, _, hp⟩ := List.mem_flatMap.1 hu
  simp only [List.mem_cons, List.not_mem_nil, or_false] at hp
  rcases hp with rfl | rfl <;> rfl

/-- A list of fractions in new memory. -/
def FPost (l : List (Int × Int)) (w : World) (e : Ending) (w' : World) : Prop :=
  ∃ a' cap', e = .returned (.slice a' l.length cap') ∧ l.length ≤ cap' ∧ Reads w' a' (l.length * 2) (fracs l) ∧ Below w.heap.size w w' ∧ ∀ p, a' = some p → w.heap.size ≤ p.block

set_option maxHeartbeats 400000 in
set_option maxRecDepth 100000 in
theorem CopyFracs_any (ms : List (Int × Int)) (a : Option Addr) (cap : Nat) (w : World) (hfew : ms.length ≤ 100000) (hr : Reads w a (ms.length * 2) (fracs ms)) :
    Calls Try.prog 75 #[.slice a ms.length cap] w fun e w' => FPost ms w e w' := by
  cases a with
  | none =>
    have h0 : ms.length = 0 := by
      rcases hr with h | ⟨b, off, e, -⟩
      · omega
      · cases e
    unfold FPost
    rw [h0]
    go_enter Try.func75, Try.ntmps75
    go_wp2_with fail
    go_ret
    exact ⟨_, _, rfl, by omega, .inl rfl, bAlloc (bSelf w) _, fun p hp => by cases hp; exact Nat.le_refl _⟩
  | some ad =>
    have HR := Lib.hid hr
    clear hr
    have HN := Lib.hid (Reads.newsF (HR.out.alloc (.cells #[] 55)))
    have hcl := Lib.hid (fcells_len ms)
    go_enter Try.func75, Try.ntmps75
    go_wp2_with (at_builtin; refine wpList_app w.heap.size rtFrac rfl (.tmp 3) (.tmp 4) rfl (.slice (some ⟨w.heap.size, 0, none⟩) 0 0) 0 [] rfl (World.ownsRow_lit w #[] 0 (Nat.le_refl _) (by decide) rfl) ad ms.length cap (fcells ms) rfl hcl.out HN.out (onesF _) (by unfold maxLen; omega) (by omega) (by simp) ?_; intro v' w2 hown' hgrow _ hwhere; have HO := Lib.hid hown'; have HBB : Hid (Below w.heap.size w w2) := Lib.hid ((bAlloc (bSelf w) _).grown hgrow (by simp) (fun k e => by cases e; exact Nat.le_refl _)); clear hown' hgrow hwhere)
    go_ret
    have hrow := HO.out
    rw [Nat.zero_add, List.nil_append] at hrow
    obtain ⟨a', cap', rfl, hcp, hrd, hfr⟩ := Reads.of_row (f := fracs ms) hrow (fun i hi => fcells_get ms i hi)
    exact ⟨a', cap', rfl, hcp, hrd, HBB.out, hfr⟩

/-- A copy of a chain, in new memory. -/
def CPost (ks fs : List Int) (w : World) (e : Ending) (w' : World) : Prop :=
  ∃ a1 c1 a2 c2, e = .returned (.agg (chV a1 ks.length c1 a2 fs.length c2)) ∧ ks.length ≤ c1 ∧ fs.length ≤ c2 ∧ Reads w' a1 ks.length (ints ks) ∧ Reads w' a2 fs.length (ints fs) ∧ Below w.heap.size w w' ∧ (∀ p, a1 = some p → w.heap.size ≤ p.block) ∧ (∀ p, a2 = some p → w.heap.size ≤ p.block)

set_option maxHeartbeats 800000 in
set_option maxRecDepth 100000 in
theorem CopyChain_any (ks fs : List Int) (a1 a2 : Option Addr) (c1 c2 : Nat) (w : World) (hk : ks.length ≤ 100000) (hf : fs.length ≤ 100000) (hr1 : Reads w a1 ks.length (ints ks)) (hr2 : Reads w a2 fs.length (ints fs)) :
    Calls Try.prog 11 #[.agg (chV a1 ks.length c1 a2 fs.length c2)] w fun e w' => CPost ks fs w e w' := by
  have H1 := Lib.hid (fun W (hb : Below w.heap.size w W) => CopyInts_any ks a1 c1 W hk (hr1.to hb))
  have H2 := Lib.hid (fun W (hb : Below w.heap.size w W) => CopyInts_any fs a2 c2 W hf (hr2.to hb))
  have HP : Hid (∀ e w', (∃ a1 c1 a2 c2, e = .returned (.agg (chV a1 ks.length c1 a2 fs.length c2)) ∧ ks.length ≤ c1 ∧ fs.length ≤ c2 ∧ Reads w' a1 ks.length (ints ks) ∧ Reads w' a2 fs.length (ints fs) ∧ Below w.heap.size w w' ∧ (∀ p, a1 = some p → w.heap.size ≤ p.block) ∧ (∀ p, a2 = some p → w.heap.size ≤ p.block)) → CPost ks fs w e w') := Lib.hid (fun e w' h => h)
  obtain ⟨n1, hn1⟩ : ∃ n, ks.length = n := ⟨_, rfl⟩
  obtain ⟨n2, hn2⟩ : ∃ n, fs.length = n := ⟨_, rfl⟩
  rw [hn1] at H1 HP
  rw [hn2] at H2 HP
  rw [hn1, hn2]
  clear hn1 hn2 hk hf hr1 hr2
  go_enter Try.func11, Try.ntmps11
  go_upto_region 1 with (fail)
  obtain ⟨w3, hw3⟩ : ∃ w3, (w.alloc (.cells (chV a1 n1 c1 a2 n2 c2) 24)).alloc (.cells #[.slice none 0 0, .slice none 0 0] 24) = w3 := ⟨_, rfl⟩
  rw [hw3]
  have K0 : Hid (Blk w3 w.heap.size (chV a1 n1 c1 a2 n2 c2)) := by subst hw3; exact Lib.hid ((Blk.new _ _ _).alloc _)
  have K1 : Hid (Blk w3 (w.heap.size + 1) #[.slice none 0 0, .slice none 0 0]) := by subst hw3; exact Lib.hid (Blk.newAt _ _ _ (by simp))
  have HB : Hid (Below w.heap.size w w3) := by subst hw3; exact Lib.hid (bAlloc (bAlloc (bSelf w) _) _)
  clear hw3
  have hs3 : w.heap.size + 1 < w3.heap.size := K1.out.1
  refine wp_region_treeT 7 (by kernel_rfl) (by kernel_rfl) (fun wd hwd => ?_)
  have T := Lib.hid hwd
  clear hwd
  refine WE_yes 0 rfl (by kernel_rfl) (fun _ _ _ _ _ h => h) (by rfl) ?_; apply Exists.intro; refine ⟨fun w1 hb1 => ?_, ?_⟩; (focus ((skip; have hb1 := Lib.hid hb1; go_simp); (try (go_bits; try go_simp)); (try (rw [if_pos (by omega)]; try go_simp)); (first | done | (fail) | (with_reducible rfl) | exact rfl)))
  simp only [Act.put, List.setIfInBounds_toArray, List.set_cons_zero, List.set_cons_succ]
  refine WE_yes 1 rfl (by kernel_rfl) (fun _ _ _ _ _ h => h) (by rfl) ?_; apply Exists.intro; refine ⟨fun w1 hb1 => ?_, ?_⟩; (focus (((obtain ⟨-, k0, -⟩ := K0.out.to (T.out.trans hb1)); have hb1 := Lib.hid hb1; go_simp); (try (go_bits; try go_simp)); (try (rw [if_pos (by omega)]; try go_simp)); (first | done | (fail) | (with_reducible rfl) | exact rfl)))
  simp only [Act.put, List.setIfInBounds_toArray, List.set_cons_zero, List.set_cons_succ]
  refine WE_yes 3 rfl (by kernel_rfl) (fun _ _ _ _ _ h => h) (by rfl) ?_; apply Exists.intro; refine ⟨fun w1 hb1 => ?_, ?_⟩; (focus ((skip; have hb1 := Lib.hid hb1; go_simp); (try (go_bits; try go_simp)); (try (rw [if_pos (by omega)]; try go_simp)); (first | done | (fail) | (with_reducible rfl) | exact rfl)))
  simp only [Act.put, List.setIfInBounds_toArray, List.set_cons_zero, List.set_cons_succ]
  refine WE_yes 4 rfl (by kernel_rfl) (fun _ _ _ _ _ h => h) (by rfl) ?_; apply Exists.intro; refine ⟨fun w1 hb1 => ?_, ?_⟩; (focus (((obtain ⟨-, k0, -⟩ := K0.out.to (T.out.trans hb1)); have hb1 := Lib.hid hb1; go_simp); (try (go_bits; try go_simp)); (try (rw [if_pos (by omega)]; try go_simp)); (first | done | (fail) | (with_reducible rfl) | exact rfl)))
  simp only [Act.put, List.setIfInBounds_toArray, List.set_cons_zero, List.set_cons_succ]
  refine WE_one 2 rfl (by decide) (by kernel_rfl) ?_
  unfold stepE
  go_wp2_with fail
  refine (H1.out _ (bThen HB.out T.out)).mono ?_
  rintro e w4 ⟨b1, d1, rfl, hd1, hr1, hb, hp1⟩
  have HR1 := Lib.hid hr1
  have hbd := Lib.hid (hb.mono T.out.size)
  have HP1 := Lib.hid (fun p hp => Nat.le_trans T.out.size (hp1 p hp))
  replace T := Lib.hid (T.out.trans hbd.out)
  clear hb hr1 hp1
  go_wp2_with fail
  refine ⟨hbd.out, ?_⟩
  clear hbd
  refine WE_one 5 rfl (by decide) (by kernel_rfl) ?_
  unfold stepE
  go_wp2_with fail
  refine (H2.out _ (bThen HB.out T.out)).mono ?_
  rintro e w5 ⟨b2, d2, rfl, hd2, hr2, hb, hp2⟩
  have HR2 := Lib.hid hr2
  replace HR1 := Lib.hid (HR1.out.to hb)
  have hbd := Lib.hid (hb.mono T.out.size)
  have HP2 := Lib.hid (fun p hp => Nat.le_trans T.out.size (hp2 p hp))
  replace T := Lib.hid (T.out.trans hbd.out)
  clear hb hr2 hp2
  go_wp2_with fail
  refine ⟨hbd.out, ?_⟩
  clear hbd
  refine WE_yes 6 rfl (by kernel_rfl) (fun _ _ _ _ _ h => h) (by rfl) ?_; apply Exists.intro; refine ⟨fun w1 hb1 => ?_, ?_⟩; (focus ((skip; have hb1 := Lib.hid hb1; go_simp); (try (go_bits; try go_simp)); (try (rw [if_pos (by omega)]; try go_simp)); (first | done | (fail) | (with_reducible rfl) | exact rfl)))
  simp only [Act.put, List.setIfInBounds_toArray, List.set_cons_zero, List.set_cons_succ]
  replace K1 := Lib.hid (K1.out.to T.out)
  replace HB := Lib.hid (bThen HB.out T.out)
  refine WE_tail rfl (by kernel_rfl) ?_
  simp only [List.drop_succ_cons, List.drop_zero]
  obtain ⟨hk1, k1, f1⟩ := K1.out
  go_wp2_with fail
  clear k1 f1
  have F := ((K1.out.set 0 (.slice b1 n1 d1)).set 1 (.slice b2 n2 d2)).2.1
  have F0 := F 0; have F1 := F 1
  clear F
  refine bodyPost_ret (v := .agg (chV b1 n1 d1 b2 n2 d2)) ?_ rfl (HP.out _ _ ⟨b1, d1, b2, d2, rfl, hd1, hd2, (HR1.out.other _ _ (fun b off e => ?_)).other _ _ (fun b off e => ?_), (HR2.out.other _ _ (fun b off e => ?_)).other _ _ (fun b off e => ?_), (HB.out.setCell (p := ⟨w.heap.size + 1, 0, none⟩) (by dsimp only; omega) _).setCell (p := ⟨w.heap.size + 1, 1, none⟩) (by dsimp only; omega) _, fun p hp => Nat.le_trans (by omega) (HP1.out p hp), fun p hp => Nat.le_trans (by omega) (HP2.out p hp)⟩)
  · simp [results, Try.results11, go_sem, F0, F1]
  · have := HP1.out _ e; dsimp only at this ⊢; omega
  · have := HP1.out _ e; dsimp only at this ⊢; omega
  · have := HP2.out _ e; dsimp only at this ⊢; omega
  · have := HP2.out _ e; dsimp only at this ⊢; omega

end Go.Proofs.Ytmofgejoogikfaa

/-
  The reference's stiffness of a chain.
-/
namespace Go.Proofs.Ytmofgejoogikfaa
open Go.RowKit

theorem tdivL_bd {L k : Int} (hL : 0 < L) (hk : 1 ≤ k) (hd : k ∣ L) : 1 ≤ L.tdiv k ∧ L.tdiv k ≤ L := by
  have h := tdiv_ex (by omega : 0 < k) hd
  have h0 : 0 < L.tdiv k := tdiv_pos hL hd (by omega)
  generalize L.tdiv k = t at *
  refine ⟨by omega, ?_⟩
  have : 1 * t ≤ k * t := Int.mul_le_mul_of_nonneg_right hk (by omega)
  omega
theorem lcm_bd {ks fs : List Int} (h : ChOk ks fs) {k : Nat} (hk : k ≤ ks.length) : 0 < lcmP ks k ∧ lcmP ks k ≤ 232792560 ∧ ∀ j, j < k → gi ks j ∣ lcmP ks k := by
  obtain ⟨h1, h2, h3⟩ := lcmP_spec h.k1 k hk
  exact ⟨h1, Int.le_of_dvd (by decide) h2, h3⟩
theorem refS_bd {ks : List Int} {L : Int} (h : ∀ k, k < ks.length → 1 ≤ gi ks k) (hL : 0 < L) (hd : ∀ k, k < ks.length → gi ks k ∣ L) : ∀ k, k ≤ ks.length → (k : Int) ≤ refS ks L k ∧ refS ks L k ≤ k * L
  | 0, _ => by simp [refS]
  | k + 1, hk => by
    have ih := refS_bd h hL hd k (by omega)
    have h1 := tdivL_bd hL (h k (by omega)) (hd k (by omega))
    have e : refS ks L (k + 1) = refS ks L k + L.tdiv (gi ks k) := rfl
    have e2 : ((k + 1 : Nat) : Int) * L = k * L + L := by rw [Int.natCast_add, Int.add_mul]; simp
    rw [e, e2]
    omega

end Go.Proofs.Ytmofgejoogikfaa

