/-
  Texts of this claim, in their build order: Lib9.
-/
import Derived.Test.YtfdlhhinomjakaaHel12
import Derived.Test.YtfdlhhinomjakaaHel16

namespace Go.Proofs.Ytfdlhhinomjakaa
section
open Go.RowKit

section
variable {P : Program} {N : Nat} {ops : Array Oper} {Q : Exit → Act → World → Prop}

/-- In the world w, and in each later one, operation o leaves v in its slot, and the world as it is. -/
def YF (P : Program) (N : Nat) (o : Oper) (v : Value) (a : Act) (w : World) : Prop := ∀ w', Below N w w' → o.quietAt P a (fun w'' => w'' = w') w' v
def Y2 (P : Program) (N : Nat) (ops : Array Oper) (o : Oper) (v : Value) (a : Act) (w : World) : Prop :=
  (Region.wanted o (yielded ops a.tmps) = true ∧ YF P N o v a w) ∨ (Region.wanted o (yielded ops a.tmps) = false ∧ v = undef)

theorem Y2.later {o : Oper} {v : Value} {a : Act} {w w' : World} (h : Y2 P N ops o v a w) (hb : Below N w w') : Y2 P N ops o v a w' := by
  rcases h with ⟨hw, hv⟩ | h
  · exact .inl ⟨hw, fun w2 h2 => hv w2 (hb.trans h2)⟩
  · exact .inr h
theorem Y2.of_same {o : Oper} {v : Value} {a a' : Act} {w : World} (hy : Y2 P N ops o v a w) (he : execOp a'.eval o = execOp a.eval o)
    (hw : Region.wanted o (yielded ops a'.tmps) = Region.wanted o (yielded ops a.tmps)) : Y2 P N ops o v a' w := by
  unfold Y2 YF Oper.quietAt at *
  rw [he, hw]
  exact hy
theorem Y2.wpOp {i : Nat} {o : Oper} {v : Value} {a : Act} {w : World} (hi : ops[i]? = some o) (hy : Y2 P N ops o v a w) {K : Act → World → Prop} (h : K (a.put o.dst v) w) : wpOp P ops Q i K a w := by
  unfold Go.wpOp
  simp only [hi]
  rcases hy with ⟨hw, hv⟩ | ⟨hw, rfl⟩
  · simp only [hw, if_true]
    refine .inl (Oper.wp_of_quiet (C := fun w' => w' = w) rfl (K := fun a' => a' = a.put o.dst v) (fun a' w' hw' ha' => by rw [hw', ha']; exact h) ⟨v, fun w' hw' => ?_, rfl⟩)
    subst hw'
    exact hv _ (Below.refl _ _)
  · simp only [hw, Bool.false_eq_true, if_false]; exact h

theorem wpOp_put2 {j : Nat} {oi oj : Oper} {v : Value} (hj : ops[j]? = some oj) (hap : oi.apart ops oj = true)
    (hsi : ∀ cs b, oi.op ≠ .select cs b) (hsj : ∀ cs b, oj.op ≠ .select cs b)
    (hQ : ∀ c a w, Q (.panic c) (a.put oi.dst v) w → Q (.panic c) a w) {K : Act → World → Prop} {a : Act} {w : World}
    (hy : Y2 P N ops oi v a w) (h : wpOp P ops Q j (fun a' w' => Below N w w' ∧ K a' w') (a.put oi.dst v) w) :
    wpOp P ops Q j (fun a' w' => Below N w w' ∧ Y2 P N ops oi v a' w' ∧ K (a'.put oi.dst v) w') a w := by
  obtain ⟨h1, h2, h3⟩ := Oper.apart_spec hap
  have keep : ∀ (a : Act) (w' : World), Y2 P N ops oi v a w → Below N w w' → ∀ u, Y2 P N ops oi v (a.put oj.dst u) w' := fun a w' hy hb u =>
    (hy.later hb).of_same (execOp_put oi hsi a oj.dst u h3) (wanted_put oi a oj.dst u h3)
  have keepD : ∀ d, Y2 P N ops oi v { a with defers := d :: a.defers } w := fun d => hy.of_same rfl rfl
  unfold wpOp at *
  simp only [hj] at *
  rw [wanted_put oj a oi.dst v h1] at h
  split
  · rename_i hw
    simp only [hw, if_true] at h
    rcases h with h | ⟨hasks, hlets⟩
    case inr => exact .inr ⟨by unfold Oper.asks at *; rw [execOp_put oj hsj a oi.dst v h1] at hasks; exact hasks, hlets⟩
    refine .inl ?_
    unfold Oper.wp at *
    rw [execOp_put oj hsj a oi.dst v h1] at h
    generalize (execOp a.eval oj).run P w = r at *
    cases r with
    | ok n w' =>
      cases n <;> simp only [Oper.upon] at h ⊢
      case value u => exact ⟨h.1, keep a w' hy h.1 u, by rw [← Act.put_comm a v u h2]; exact h.2⟩
      case skip => exact ⟨h.1, keep a w' hy h.1 _, by rw [← Act.put_comm a v undef h2]; exact h.2⟩
      case defer d =>
        refine ⟨h.1, keep _ w' (keepD d) h.1 _, ?_⟩
        rw [← Act.put_comm _ v undef h2, ← Act.put_defers]
        exact h.2
      case enter f args =>
        refine Calls.mono h fun e w'' he => ?_
        cases e with
        | returned u => exact ⟨he.1, keep a w'' hy he.1 u, by rw [← Act.put_comm a v u h2]; exact he.2⟩
        | panicked c => exact hQ _ _ _ he
        | outgrown => exact he
      case row row args => exact Rows.mono h fun u w'' he => ⟨he.1, keep a w'' hy he.1 u, by rw [← Act.put_comm a v u h2]; exact he.2⟩
    | halt x w' =>
      cases x <;> simp only [Oper.upon] at h ⊢
      case panic u => exact hQ _ _ _ h
  · rename_i hw
    simp only [hw] at h
    exact ⟨h.1, keep a w hy h.1 _, by rw [← Act.put_comm a v undef h2]; exact h.2⟩

/-- Whatever order is picked; each operation leaves what there was. -/
def wpD (P : Program) (N : Nat) (ops : Array Oper) (Q : Exit → Act → World → Prop) : Nat → Array Bool → Act → World → Prop
  | 0, listed, a, w => Region.ready .any ops listed = [] ∧ Q .normal a w
  | f + 1, listed, a, w =>
    (Region.ready .any ops listed = [] → Q .normal a w) ∧
    ∀ i ∈ Region.ready .any ops listed, wpOp P ops Q i (fun a' w' => Below N w w' ∧ wpD P N ops Q f (listed.setIfInBounds i true) a' w') a w
theorem wpAny_of_wpD : ∀ (f : Nat) (listed : Array Bool) (a : Act) (w : World), wpD P N ops Q f listed a w → wpAny P .any ops Q f listed a w
  | 0, _, _, _, h => h
  | f + 1, _, _, _, h => ⟨h.1, fun i hi => wpOp_mono (fun a' w' h' => wpAny_of_wpD f _ a' w' h'.2) (h.2 i hi)⟩

theorem wpD_first {i : Nat} {oi : Oper} {v : Value} (hi : ops[i]? = some oi) (hsel : ∀ (j : Nat) (o : Oper) cs b, ops[j]? = some o → o.op ≠ .select cs b)
    (hQ : ∀ c a w, Q (.panic c) (a.put oi.dst v) w → Q (.panic c) a w) :
    ∀ (fuel : Nat) (listed : Array Bool) (a : Act) (w : World),
      (∀ j oj, ops[j]? = some oj → j ≠ i → listed.getD j true = false → (∀ e ∈ oj.after, Region.binds .any e = true → e.on ≠ i) → oi.apart ops oj = true) →
      i ∈ Region.ready .any ops listed → Y2 P N ops oi v a w →
      wpD P N ops Q fuel (listed.setIfInBounds i true) (a.put oi.dst v) w → wpD P N ops Q (fuel + 1) listed a w := by
  intro fuel
  induction fuel with
  | zero =>
    intro listed a w _ hr hy H
    refine ⟨fun h => (by rw [h] at hr; cases hr), fun j hj => ?_⟩
    by_cases hji : j = i
    · subst hji; exact hy.wpOp hi ⟨Below.refl _ _, H⟩
    · have := ready_mono hj hji
      rw [H.1] at this
      cases this
  | succ fuel ih =>
    intro listed a w hfree hr hy H
    refine ⟨fun h => (by rw [h] at hr; cases hr), fun j hj => ?_⟩
    by_cases hji : j = i
    · subst hji; exact hy.wpOp hi ⟨Below.refl _ _, H⟩
    · have h1 := H.2 j (ready_mono hj hji)
      obtain ⟨hjun, oj, hoj, hall⟩ := mem_ready.1 hj
      have hnot : ∀ e ∈ oj.after, Region.binds .any e = true → e.on ≠ i := fun e he hb heq => by
        have h1 := hall e he hb
        have h0 := (mem_ready.1 hr).1
        rw [heq] at h1
        rcases Nat.lt_or_ge i listed.size with h' | h'
        · simp [h'] at h0 h1; rw [h0] at h1; cases h1
        · simp [Array.getElem?_eq_none h'] at h1
      have h2 := wpOp_put2 hoj (hfree j oj hoj hji hjun hnot) (fun cs b => hsel i oi cs b hi) (fun cs b => hsel j oj cs b hoj) hQ hy h1
      have hfree' : ∀ k ok, ops[k]? = some ok → k ≠ i → (listed.setIfInBounds j true).getD k true = false →
          (∀ e ∈ ok.after, Region.binds .any e = true → e.on ≠ i) → oi.apart ops ok = true := fun k ok hk hki hun hno => by
        refine hfree k ok hk hki ?_ hno
        by_cases hjk : j = k
        · subst hjk; exact hjun
        · rw [getD_set_ne true hjk] at hun; exact hun
      refine wpOp_mono (fun a' w' h3 => ⟨h3.1, ih (listed.setIfInBounds j true) a' w' hfree' (ready_mono hr (Ne.symm hji)) h3.2.1 ?_⟩) h2
      rw [Array.setIfInBounds_comm _ _ hji]
      exact h3.2.2

/-- The first k operations have come up. -/
def lst (n k : Nat) : Array Bool := ((List.range n).map fun i => decide (i < k)).toArray
theorem lst_zero (n : Nat) : lst n 0 = Array.replicate n false := by
  apply Array.ext
  · simp [lst]
  · intro i h1 h2; simp [lst]
theorem lst_set {n k : Nat} (_hk : k < n) : (lst n k).setIfInBounds k true = lst n (k + 1) := by
  apply Array.ext
  · simp [lst]
  · intro i h1 h2
    simp only [lst, Array.size_setIfInBounds, List.size_toArray, List.length_map, List.length_range] at h1
    by_cases hik : k = i
    · subst hik; simp [lst]
    · rw [Array.getElem_setIfInBounds_ne (by simpa [lst] using h1) hik]
      simp only [lst, List.getElem_toArray, List.getElem_map, List.getElem_range]
      by_cases h : i < k
      · rw [decide_eq_true h, decide_eq_true (by omega)]
      · rw [decide_eq_false h, decide_eq_false (by omega)]

/-- May the operations be walked in the text's order? xs: those that may do whatever they do. -/
def mixB (ops : Array Oper) (xs : List Nat) : Bool :=
  Region.noSelect ops && (List.range ops.size).all fun k => if xs.contains k then decide (Region.ready .any ops (lst ops.size k) = [k]) else (Region.ready .any ops (lst ops.size k)).contains k && Region.free .any ops (lst ops.size k) k

def wpMix (P : Program) (N : Nat) (ops : Array Oper) (Q : Exit → Act → World → Prop) (xs : List Nat) : Nat → List Oper → Act → World → Prop
  | _, [], a, w => Q .normal a w
  | k, o :: l, a, w =>
    if xs.contains k = true then wpList P ops (MidQ (fun a' w' => Below N w w' ∧ wpMix P N ops Q xs (k + 1) l a' w') Q) [o] a w
    else ∃ v, Y2 P N ops o v a w ∧ wpMix P N ops Q xs (k + 1) l (a.put o.dst v) w

theorem wpD_of_mix {xs : List Nat} (hB : mixB ops xs = true) (hQ : ∀ c d v a w, Q (.panic c) (a.put (some d) v) w → Q (.panic c) a w) :
    ∀ (l : List Oper) (k : Nat) (a : Act) (w : World), (∀ j, j < l.length → l[j]? = ops[k + j]?) → k + l.length = ops.size → wpMix P N ops Q xs k l a w → wpD P N ops Q l.length (lst ops.size k) a w
  | [], k, a, w, _, hk, h => by
    refine ⟨?_, h⟩
    have hk' : k = ops.size := by simpa using hk
    apply List.eq_nil_iff_forall_not_mem.2
    intro j hj
    obtain ⟨hun, oj, hoj, -⟩ := mem_ready.1 hj
    have hlt := (Array.getElem?_eq_some_iff.1 hoj).1
    subst hk'
    simp [lst, hlt] at hun
  | o :: l, k, a, w, hl, hk, h => by
    have h0 : ops[k]? = some o := by simpa using (hl 0 (by simp)).symm
    have hklt : k < ops.size := (Array.getElem?_eq_some_iff.1 h0).1
    have hl' : ∀ j, j < l.length → l[j]? = ops[k + 1 + j]? := fun j hj => by have := hl (j + 1) (by simp; omega); simpa [Nat.add_assoc, Nat.add_comm 1 j] using this
    have hk' : k + 1 + l.length = ops.size := by simp only [List.length_cons] at hk; omega
    simp only [mixB, Bool.and_eq_true, List.all_eq_true, List.mem_range] at hB
    have hb := hB.2 k hklt
    rw [wpMix] at h
    by_cases hx : xs.contains k = true
    · rw [if_pos hx] at h hb
      have hr : Region.ready .any ops (lst ops.size k) = [k] := by simpa using hb
      refine ⟨fun h1 => (by rw [hr] at h1; cases h1), fun i hi => ?_⟩
      rw [hr] at hi
      have hik : i = k := by simpa using hi
      subst hik
      rw [lst_set hklt]
      exact wpOp_mono (fun a' w' h' => ⟨h'.1, wpD_of_mix (by simp only [mixB, Bool.and_eq_true, List.all_eq_true, List.mem_range]; exact hB) hQ l (i + 1) a' w' hl' hk' h'.2⟩) (wpOp_of_mid h0 h)
    · rw [if_neg hx] at h hb
      obtain ⟨v, hy, hn⟩ := h
      simp only [Bool.and_eq_true] at hb
      refine wpD_first h0 (Region.noSelect_spec hB.1) (fun c a w => ?_) _ _ _ _ (Region.free_spec h0 hb.2) (by simpa using hb.1) hy ?_
      · cases hd : o.dst with
        | none => exact fun h => h
        | some d => exact hQ c d v a w
      · rw [lst_set hklt]
        exact wpD_of_mix (by simp only [mixB, Bool.and_eq_true, List.all_eq_true, List.mem_range]; exact hB) hQ l (k + 1) _ w hl' hk' hn

structure WM (P : Program) (N : Nat) (ops : Array Oper) (Q : Exit → Act → World → Prop) (xs : List Nat) (k : Nat) (l : List Oper) (a : Act) (w : World) : Prop where
  out : wpMix P N ops Q xs k l a w
theorem WM_nil {xs : List Nat} {k : Nat} {a : Act} {w : World} (h : Q .normal a w) : WM P N ops Q xs k [] a w := ⟨h⟩
theorem WM_no {xs : List Nat} {k : Nat} {o : Oper} {l : List Oper} {a : Act} {w : World} (hx : xs.contains k = false) (hw : Region.wanted o (yielded ops a.tmps) = false) (h : WM P N ops Q xs (k + 1) l (a.put o.dst undef) w) : WM P N ops Q xs k (o :: l) a w := by
  refine ⟨?_⟩
  rw [wpMix, if_neg (by rw [hx]; simp)]
  exact ⟨undef, .inr ⟨hw, rfl⟩, h.out⟩
theorem WM_yes {xs : List Nat} {k : Nat} {o : Oper} {l : List Oper} {a : Act} {w : World} (hx : xs.contains k = false) (hw : Region.wanted o (yielded ops a.tmps) = true)
    (h : ∃ v, (∀ w', Below N w w' → o.quietAt P a (fun w'' => w'' = w') w' v) ∧ WM P N ops Q xs (k + 1) l (a.put o.dst v) w) : WM P N ops Q xs k (o :: l) a w := by
  refine ⟨?_⟩
  rw [wpMix, if_neg (by rw [hx]; simp)]
  obtain ⟨v, h1, h2⟩ := h
  exact ⟨v, .inl ⟨hw, h1⟩, h2.out⟩
theorem WM_x {xs : List Nat} {k : Nat} {o : Oper} {l : List Oper} {a : Act} {w : World} (hx : xs.contains k = true)
    (h : wpList P ops (MidQ (fun a' w' => Below N w w' ∧ WM P N ops Q xs (k + 1) l a' w') Q) [o] a w) : WM P N ops Q xs k (o :: l) a w := by
  refine ⟨?_⟩
  rw [wpMix, if_pos hx]
  have e : (fun a' w' => Below N w w' ∧ WM P N ops Q xs (k + 1) l a' w') = fun a' w' => Below N w w' ∧ wpMix P N ops Q xs (k + 1) l a' w' := by
    funext a' w'
    exact propext ⟨fun h => ⟨h.1, h.2.out⟩, fun h => ⟨h.1, ⟨h.2⟩⟩⟩
  rwa [e] at h

/-- The region, in the text's order. -/
theorem wp_region_mix {id : Nat} {a : Act} {w : World} {l : List Oper} (xs : List Nat) (hm : P.follows .mixedOrders = true) (hB : mixB l.toArray xs = true)
    (hQ : ∀ c d v a w, Q (.panic c) (a.put (some d) v) w → Q (.panic c) a w) (h : ∀ w', Below w.heap.size w w' → WM P w.heap.size l.toArray Q xs 0 l a w') : (Code.region id l.toArray true).wp P Q a w := by
  refine wp_region_any hm (wpAny_of_wpD (N := w.heap.size) _ _ _ _ ?_)
  have := wpD_of_mix (P := P) (N := w.heap.size) hB hQ l 0 a { w with drawn := w.drawn + 1 } (by simp) (by simp) (h _ (Below.refl _ _).drew).out
  rw [lst_zero] at this
  simpa using this
end

section
variable {P : Program} {N : Nat} {l : List Oper} {Q : Exit → Act → World → Prop}

/-- A walk over all orders that matter: what only reads is taken first; all else is parted on. -/
structure WT (P : Program) (N : Nat) (l : List Oper) (Q : Exit → Act → World → Prop) (f : Nat) (listed : Array Bool) (a : Act) (w : World) : Prop where
  out : wpD P N l.toArray Q f listed a w
theorem WT_yes {f : Nat} {listed : Array Bool} {a : Act} {w : World} (i : Nat) {o : Oper} (hi : l[i]? = some o) (hB : (Region.noSelect l.toArray && (Region.ready .any l.toArray listed).contains i && Region.free .any l.toArray listed i) = true)
    (hQ : ∀ c d v a w, Q (.panic c) (a.put (some d) v) w → Q (.panic c) a w) (hw : Region.wanted o (yielded l.toArray a.tmps) = true)
    (h : ∃ v, (∀ w', Below N w w' → o.quietAt P a (fun w'' => w'' = w') w' v) ∧ WT P N l Q f (listed.setIfInBounds i true) (a.put o.dst v) w) : WT P N l Q (f + 1) listed a w := by
  obtain ⟨v, hv, hn⟩ := h
  simp only [Bool.and_eq_true] at hB
  have h0 : l.toArray[i]? = some o := by simpa using hi
  refine ⟨wpD_first h0 (Region.noSelect_spec hB.1.1) (fun c a w => ?_) _ _ _ _ (Region.free_spec h0 hB.2) (by simpa using hB.1.2) (.inl ⟨hw, hv⟩) hn.out⟩
  cases hd : o.dst with
  | none => exact fun h => h
  | some d => exact hQ c d v a w
theorem WT_no {f : Nat} {listed : Array Bool} {a : Act} {w : World} (i : Nat) {o : Oper} (hi : l[i]? = some o) (hB : (Region.noSelect l.toArray && (Region.ready .any l.toArray listed).contains i && Region.free .any l.toArray listed i) = true)
    (hQ : ∀ c d v a w, Q (.panic c) (a.put (some d) v) w → Q (.panic c) a w) (hw : Region.wanted o (yielded l.toArray a.tmps) = false)
    (h : WT P N l Q f (listed.setIfInBounds i true) (a.put o.dst undef) w) : WT P N l Q (f + 1) listed a w := by
  simp only [Bool.and_eq_true] at hB
  have h0 : l.toArray[i]? = some o := by simpa using hi
  refine ⟨wpD_first h0 (Region.noSelect_spec hB.1.1) (fun c a w => ?_) _ _ _ _ (Region.free_spec h0 hB.2) (by simpa using hB.1.2) (.inr ⟨hw, rfl⟩) h.out⟩
  cases hd : o.dst with
  | none => exact fun h => h
  | some d => exact hQ c d undef a w
/-- What is asked of one operation that comes up. -/
def stepT (P : Program) (N : Nat) (l : List Oper) (Q : Exit → Act → World → Prop) (f i : Nat) (listed : Array Bool) (o : Oper) (a : Act) (w : World) : Prop :=
  wpList P l.toArray (MidQ (fun a' w' => Below N w w' ∧ WT P N l Q f (listed.setIfInBounds i true) a' w') Q) [o] a w
theorem stepT.op {f i : Nat} {listed : Array Bool} {o : Oper} {a : Act} {w : World} (hi : l[i]? = some o) (h : stepT P N l Q f i listed o a w) :
    wpOp P l.toArray Q i (fun a' w' => Below N w w' ∧ wpD P N l.toArray Q f (listed.setIfInBounds i true) a' w') a w :=
  wpOp_mono (fun _ _ h' => ⟨h'.1, h'.2.out⟩) (wpOp_of_mid (by simpa using hi) h)
theorem WT_one {f : Nat} {listed : Array Bool} {a : Act} {w : World} (i : Nat) {o : Oper} (hi : l[i]? = some o) (hr : Region.ready .any l.toArray listed = [i]) (h : stepT P N l Q f i listed o a w) : WT P N l Q (f + 1) listed a w := by
  refine ⟨fun h1 => (by rw [hr] at h1; cases h1), fun j hj => ?_⟩
  rw [hr] at hj
  have : j = i := by simpa using hj
  subst this
  exact h.op hi
theorem WT_two {f : Nat} {listed : Array Bool} {a : Act} {w : World} (i j : Nat) {o p : Oper} (hi : l[i]? = some o) (hj : l[j]? = some p) (hr : Region.ready .any l.toArray listed = [i, j]) (h : stepT P N l Q f i listed o a w) (h' : stepT P N l Q f j listed p a w) : WT P N l Q (f + 1) listed a w := by
  refine ⟨fun h1 => (by rw [hr] at h1; cases h1), fun k hk => ?_⟩
  rw [hr] at hk
  simp only [List.mem_cons, List.not_mem_nil, or_false] at hk
  rcases hk with rfl | rfl
  · exact h.op hi
  · exact h'.op hj
theorem WT_done {f : Nat} {listed : Array Bool} {a : Act} {w : World} (hr : Region.ready .any l.toArray listed = []) (h : Q .normal a w) : WT P N l Q f listed a w := by
  cases f with
  | zero => exact ⟨hr, h⟩
  | succ f => exact ⟨fun _ => h, fun i hi => by rw [hr] at hi; cases hi⟩
theorem wp_region_tree {id : Nat} {a : Act} {w : World} (hm : P.follows .mixedOrders = true) (h : ∀ w', Below w.heap.size w w' → WT P w.heap.size l Q l.length (Array.replicate l.length false) a w') : (Code.region id l.toArray true).wp P Q a w := by
  refine wp_region_any hm (wpAny_of_wpD (N := w.heap.size) _ _ _ _ ?_)
  have := (h { w with drawn := w.drawn + 1 } (Below.refl _ _).drew).out
  simpa using this
end
theorem WTq {P : Program} {N : Nat} {l : List Oper} {Q : Exit → Act → World → Prop} {f : Nat} {listed : Array Bool} {a : Act} {w : World} (i : Nat) {o : Oper} (h : ∃ v, (∀ w', Below N w w' → o.quietAt P a (fun w'' => w'' = w') w' v) ∧ WT P N l Q f (listed.setIfInBounds i true) (a.put o.dst v) w) (hi : l[i]? = some o := by rfl) (hB : (Region.noSelect l.toArray && (Region.ready .any l.toArray listed).contains i && Region.free .any l.toArray listed i) = true := by kernel_rfl) (hQ : ∀ c d v a w, Q (.panic c) (a.put (some d) v) w → Q (.panic c) a w := by exact fun _ _ _ _ _ h => h) (hw : Region.wanted o (yielded l.toArray a.tmps) = true := by rfl) : WT P N l Q (f + 1) listed a w := WT_yes i hi hB hQ hw h
end
end Go.Proofs.Ytfdlhhinomjakaa
