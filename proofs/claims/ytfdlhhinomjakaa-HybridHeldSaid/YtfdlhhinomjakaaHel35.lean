/-
  Texts of this claim, in their build order: Lib18.
-/
import Derived.Test.YtfdlhhinomjakaaHel24
import Derived.Test.YtfdlhhinomjakaaHel3

namespace Go.Proofs.Ytfdlhhinomjakaa
section
open Go.RowKit

structure Pre (R : World → World → Prop) : Prop where
  refl : ∀ w, R w w
  trans : ∀ {a b c}, R a b → R b c → R a c
/-- What lies below N, and block b, stays. -/
def KeepR (N b : Nat) (u u' : World) : Prop := Below N u u' ∧ u'.heap[b]? = u.heap[b]?
theorem KeepR.pre (N b : Nat) : Pre (KeepR N b) := ⟨fun _ => ⟨Below.refl _ _, rfl⟩, fun h h' => ⟨h.1.trans h'.1, h'.2.trans h.2⟩⟩
theorem Blk.same {w w' : World} {b : Nat} {cs : Array Value} (h : Blk w b cs) (hb : w'.heap[b]? = w.heap[b]?) : Blk w' b cs := by
  have h1 : b < w'.heap.size := by
    have := h.1
    rcases Nat.lt_or_ge b w'.heap.size with h2 | h2
    · exact h2
    · rw [Array.getElem?_eq_none h2, Array.getElem?_eq_getElem this] at hb; cases hb
  exact ⟨h1, fun o => (World.cell?_of_block (a := ⟨b, o, none⟩) hb).trans (h.2.1 o), fun o => (World.frozen?_of_block (a := ⟨b, o, none⟩) hb).trans (h.2.2 o)⟩

section
variable {P : Program} {R : World → World → Prop} {ops : Array Oper} {Q : Exit → Act → World → Prop}

/-- In the world w, and in each later one, operation o leaves v in its slot, and the world as it is. -/
def YG (P : Program) (R : World → World → Prop) (o : Oper) (v : Value) (a : Act) (w : World) : Prop := ∀ w', R w w' → o.quietAt P a (fun w'' => w'' = w') w' v
def Y3 (P : Program) (R : World → World → Prop) (ops : Array Oper) (o : Oper) (v : Value) (a : Act) (w : World) : Prop :=
  (Region.wanted o (yielded ops a.tmps) = true ∧ YG P R o v a w) ∨ (Region.wanted o (yielded ops a.tmps) = false ∧ v = undef)

theorem Y3.later (hR : Pre R) {o : Oper} {v : Value} {a : Act} {w w' : World} (h : Y3 P R ops o v a w) (hb : R w w') : Y3 P R ops o v a w' := by
  rcases h with ⟨hw, hv⟩ | h
  · exact .inl ⟨hw, fun w2 h2 => hv w2 (hR.trans hb h2)⟩
  · exact .inr h
theorem Y3.of_same {o : Oper} {v : Value} {a a' : Act} {w : World} (hy : Y3 P R ops o v a w) (he : execOp a'.eval o = execOp a.eval o)
    (hw : Region.wanted o (yielded ops a'.tmps) = Region.wanted o (yielded ops a.tmps)) : Y3 P R ops o v a' w := by
  unfold Y3 YG Oper.quietAt at *
  rw [he, hw]
  exact hy
theorem Y3.wpOp (hR : Pre R) {i : Nat} {o : Oper} {v : Value} {a : Act} {w : World} (hi : ops[i]? = some o) (hy : Y3 P R ops o v a w) {K : Act → World → Prop} (h : K (a.put o.dst v) w) : wpOp P ops Q i K a w := by
  unfold Go.wpOp
  simp only [hi]
  rcases hy with ⟨hw, hv⟩ | ⟨hw, rfl⟩
  · simp only [hw, if_true]
    refine .inl (Oper.wp_of_quiet (C := fun w' => w' = w) rfl (K := fun a' => a' = a.put o.dst v) (fun a' w' hw' ha' => by rw [hw', ha']; exact h) ⟨v, fun w' hw' => ?_, rfl⟩)
    subst hw'
    exact hv _ (hR.refl _)
  · simp only [hw, Bool.false_eq_true, if_false]; exact h

theorem wpOp_put3 (hR : Pre R) {j : Nat} {oi oj : Oper} {v : Value} (hj : ops[j]? = some oj) (hap : oi.apart ops oj = true)
    (hsi : ∀ cs b, oi.op ≠ .select cs b) (hsj : ∀ cs b, oj.op ≠ .select cs b)
    (hQ : ∀ c a w, Q (.panic c) (a.put oi.dst v) w → Q (.panic c) a w) {K : Act → World → Prop} {a : Act} {w : World}
    (hy : Y3 P R ops oi v a w) (h : wpOp P ops Q j (fun a' w' => R w w' ∧ K a' w') (a.put oi.dst v) w) :
    wpOp P ops Q j (fun a' w' => R w w' ∧ Y3 P R ops oi v a' w' ∧ K (a'.put oi.dst v) w') a w := by
  obtain ⟨h1, h2, h3⟩ := Oper.apart_spec hap
  have keep : ∀ (a : Act) (w' : World), Y3 P R ops oi v a w → R w w' → ∀ u, Y3 P R ops oi v (a.put oj.dst u) w' := fun a w' hy hb u =>
    (hy.later hR hb).of_same (execOp_put oi hsi a oj.dst u h3) (wanted_put oi a oj.dst u h3)
  have keepD : ∀ d, Y3 P R ops oi v { a with defers := d :: a.defers } w := fun d => hy.of_same rfl rfl
  unfold wpOp at *
  simp only [hj] at *
  rw [wanted_put oj a oi.dst v h1] at h
  split
  · rename_i hw
    simp only [hw, if_true] at h
    rcases h with h | ⟨hasks, hlets⟩
    case inr => exact .inr ⟨by unfold Oper.asks at *; rw [execOp_put oj hsj a oi.dst v h1] at hasks; exact hasks, hlets⟩
    refine .inl ?_
    unfold Oper.wp at *
    rw [execOp_put oj hsj a oi.dst v h1] at h
    generalize (execOp a.eval oj).run P w = r at *
    cases r with
    | ok n w' =>
      cases n <;> simp only [Oper.upon] at h ⊢
      case value u => exact ⟨h.1, keep a w' hy h.1 u, by rw [← Act.put_comm a v u h2]; exact h.2⟩
      case skip => exact ⟨h.1, keep a w' hy h.1 _, by rw [← Act.put_comm a v undef h2]; exact h.2⟩
      case defer d =>
        refine ⟨h.1, keep _ w' (keepD d) h.1 _, ?_⟩
        rw [← Act.put_comm _ v undef h2, ← Act.put_defers]
        exact h.2
      case enter f args =>
        refine Calls.mono h fun e w'' he => ?_
        cases e with
        | returned u => exact ⟨he.1, keep a w'' hy he.1 u, by rw [← Act.put_comm a v u h2]; exact he.2⟩
        | panicked c => exact hQ _ _ _ he
        | outgrown => exact he
      case row row args => exact Rows.mono h fun u w'' he => ⟨he.1, keep a w'' hy he.1 u, by rw [← Act.put_comm a v u h2]; exact he.2⟩
    | halt x w' =>
      cases x <;> simp only [Oper.upon] at h ⊢
      case panic u => exact hQ _ _ _ h
  · rename_i hw
    simp only [hw] at h
    exact ⟨h.1, keep a w hy h.1 _, by rw [← Act.put_comm a v undef h2]; exact h.2⟩

/-- Whatever order is picked; each operation leaves what there was. -/
def wpG (P : Program) (R : World → World → Prop) (ops : Array Oper) (Q : Exit → Act → World → Prop) : Nat → Array Bool → Act → World → Prop
  | 0, listed, a, w => Region.ready .any ops listed = [] ∧ Q .normal a w
  | f + 1, listed, a, w =>
    (Region.ready .any ops listed = [] → Q .normal a w) ∧
    ∀ i ∈ Region.ready .any ops listed, wpOp P ops Q i (fun a' w' => R w w' ∧ wpG P R ops Q f (listed.setIfInBounds i true) a' w') a w
theorem wpAny_of_wpG : ∀ (f : Nat) (listed : Array Bool) (a : Act) (w : World), wpG P R ops Q f listed a w → wpAny P .any ops Q f listed a w
  | 0, _, _, _, h => h
  | f + 1, _, _, _, h => ⟨h.1, fun i hi => wpOp_mono (fun a' w' h' => wpAny_of_wpG f _ a' w' h'.2) (h.2 i hi)⟩

theorem wpG_first (hR : Pre R) {i : Nat} {oi : Oper} {v : Value} (hi : ops[i]? = some oi) (hsel : ∀ (j : Nat) (o : Oper) cs b, ops[j]? = some o → o.op ≠ .select cs b)
    (hQ : ∀ c a w, Q (.panic c) (a.put oi.dst v) w → Q (.panic c) a w) :
    ∀ (fuel : Nat) (listed : Array Bool) (a : Act) (w : World),
      (∀ j oj, ops[j]? = some oj → j ≠ i → listed.getD j true = false → (∀ e ∈ oj.after, Region.binds .any e = true → e.on ≠ i) → oi.apart ops oj = true) →
      i ∈ Region.ready .any ops listed → Y3 P R ops oi v a w →
      wpG P R ops Q fuel (listed.setIfInBounds i true) (a.put oi.dst v) w → wpG P R ops Q (fuel + 1) listed a w := by
  intro fuel
  induction fuel with
  | zero =>
    intro listed a w _ hr hy H
    refine ⟨fun h => (by rw [h] at hr; cases hr), fun j hj => ?_⟩
    by_cases hji : j = i
    · subst hji; exact hy.wpOp hR hi ⟨hR.refl _, H⟩
    · have := ready_mono hj hji
      rw [H.1] at this
      cases this
  | succ fuel ih =>
    intro listed a w hfree hr hy H
    refine ⟨fun h => (by rw [h] at hr; cases hr), fun j hj => ?_⟩
    by_cases hji : j = i
    · subst hji; exact hy.wpOp hR hi ⟨hR.refl _, H⟩
    · have h1 := H.2 j (ready_mono hj hji)
      obtain ⟨hjun, oj, hoj, hall⟩ := mem_ready.1 hj
      have hnot : ∀ e ∈ oj.after, Region.binds .any e = true → e.on ≠ i := fun e he hb heq => by
        have h1 := hall e he hb
        have h0 := (mem_ready.1 hr).1
        rw [heq] at h1
        rcases Nat.lt_or_ge i listed.size with h' | h'
        · simp [h'] at h0 h1; rw [h0] at h1; cases h1
        · simp [Array.getElem?_eq_none h'] at h1
      have h2 := wpOp_put3 hR hoj (hfree j oj hoj hji hjun hnot) (fun cs b => hsel i oi cs b hi) (fun cs b => hsel j oj cs b hoj) hQ hy h1
      have hfree' : ∀ k ok, ops[k]? = some ok → k ≠ i → (listed.setIfInBounds j true).getD k true = false →
          (∀ e ∈ ok.after, Region.binds .any e = true → e.on ≠ i) → oi.apart ops ok = true := fun k ok hk hki hun hno => by
        refine hfree k ok hk hki ?_ hno
        by_cases hjk : j = k
        · subst hjk; exact hjun
        · rw [getD_set_ne true hjk] at hun; exact hun
      refine wpOp_mono (fun a' w' h3 => ⟨h3.1, ih (listed.setIfInBounds j true) a' w' hfree' (ready_mono hr (Ne.symm hji)) h3.2.1 ?_⟩) h2
      rw [Array.setIfInBounds_comm _ _ hji]
      exact h3.2.2

end

section
variable {P : Program} {R : World → World → Prop} {l : List Oper} {Q : Exit → Act → World → Prop}

/-- A walk over all orders that matter: what only reads is taken first; all else is parted on. -/
structure WG (P : Program) (R : World → World → Prop) (l : List Oper) (Q : Exit → Act → World → Prop) (f : Nat) (listed : Array Bool) (a : Act) (w : World) : Prop where
  out : Pre R → wpG P R l.toArray Q f listed a w
theorem WG_yes {f : Nat} {listed : Array Bool} {a : Act} {w : World} (i : Nat) {o : Oper} (hi : l[i]? = some o) (hB : (Region.noSelect l.toArray && (Region.ready .any l.toArray listed).contains i && Region.free .any l.toArray listed i) = true)
    (hQ : ∀ c d v a w, Q (.panic c) (a.put (some d) v) w → Q (.panic c) a w) (hw : Region.wanted o (yielded l.toArray a.tmps) = true)
    (h : ∃ v, (∀ w', R w w' → o.quietAt P a (fun w'' => w'' = w') w' v) ∧ WG P R l Q f (listed.setIfInBounds i true) (a.put o.dst v) w) : WG P R l Q (f + 1) listed a w := by
  obtain ⟨v, hv, hn⟩ := h
  simp only [Bool.and_eq_true] at hB
  have h0 : l.toArray[i]? = some o := by simpa using hi
  refine ⟨fun hR => wpG_first hR h0 (Region.noSelect_spec hB.1.1) (fun c a w => ?_) _ _ _ _ (Region.free_spec h0 hB.2) (by simpa using hB.1.2) (.inl ⟨hw, hv⟩) (hn.out hR)⟩
  cases hd : o.dst with
  | none => exact fun h => h
  | some d => exact hQ c d v a w
theorem WG_no {f : Nat} {listed : Array Bool} {a : Act} {w : World} (i : Nat) {o : Oper} (hi : l[i]? = some o) (hB : (Region.noSelect l.toArray && (Region.ready .any l.toArray listed).contains i && Region.free .any l.toArray listed i) = true)
    (hQ : ∀ c d v a w, Q (.panic c) (a.put (some d) v) w → Q (.panic c) a w) (hw : Region.wanted o (yielded l.toArray a.tmps) = false)
    (h : WG P R l Q f (listed.setIfInBounds i true) (a.put o.dst undef) w) : WG P R l Q (f + 1) listed a w := by
  simp only [Bool.and_eq_true] at hB
  have h0 : l.toArray[i]? = some o := by simpa using hi
  refine ⟨fun hR => wpG_first hR h0 (Region.noSelect_spec hB.1.1) (fun c a w => ?_) _ _ _ _ (Region.free_spec h0 hB.2) (by simpa using hB.1.2) (.inr ⟨hw, rfl⟩) (h.out hR)⟩
  cases hd : o.dst with
  | none => exact fun h => h
  | some d => exact hQ c d undef a w
/-- What is asked of one operation that comes up. -/
def stepG (P : Program) (R : World → World → Prop) (l : List Oper) (Q : Exit → Act → World → Prop) (f i : Nat) (listed : Array Bool) (o : Oper) (a : Act) (w : World) : Prop :=
  wpList P l.toArray (MidQ (fun a' w' => R w w' ∧ WG P R l Q f (listed.setIfInBounds i true) a' w') Q) [o] a w
theorem stepG.op (hR : Pre R) {f i : Nat} {listed : Array Bool} {o : Oper} {a : Act} {w : World} (hi : l[i]? = some o) (h : stepG P R l Q f i listed o a w) :
    wpOp P l.toArray Q i (fun a' w' => R w w' ∧ wpG P R l.toArray Q f (listed.setIfInBounds i true) a' w') a w :=
  wpOp_mono (fun _ _ h' => ⟨h'.1, h'.2.out hR⟩) (wpOp_of_mid (by simpa using hi) h)
theorem WG_one {f : Nat} {listed : Array Bool} {a : Act} {w : World} (i : Nat) {o : Oper} (hi : l[i]? = some o) (hr : Region.ready .any l.toArray listed = [i]) (h : stepG P R l Q f i listed o a w) : WG P R l Q (f + 1) listed a w := by
  refine ⟨fun hR => ⟨fun h1 => (by rw [hr] at h1; cases h1), fun j hj => ?_⟩⟩
  rw [hr] at hj
  have : j = i := by simpa using hj
  subst this
  exact h.op hR hi
theorem WG_two {f : Nat} {listed : Array Bool} {a : Act} {w : World} (i j : Nat) {o p : Oper} (hi : l[i]? = some o) (hj : l[j]? = some p) (hr : Region.ready .any l.toArray listed = [i, j]) (h : stepG P R l Q f i listed o a w) (h' : stepG P R l Q f j listed p a w) : WG P R l Q (f + 1) listed a w := by
  refine ⟨fun hR => ⟨fun h1 => (by rw [hr] at h1; cases h1), fun k hk => ?_⟩⟩
  rw [hr] at hk
  simp only [List.mem_cons, List.not_mem_nil, or_false] at hk
  rcases hk with rfl | rfl
  · exact h.op hR hi
  · exact h'.op hR hj
theorem WG_three {f : Nat} {listed : Array Bool} {a : Act} {w : World} (i j k : Nat) {o p q : Oper} (hi0 : l[i]? = some o) (hj0 : l[j]? = some p) (hk0 : l[k]? = some q) (hr : Region.ready .any l.toArray listed = [i, j, k]) (hi : stepG P R l Q f i listed o a w) (hj : stepG P R l Q f j listed p a w) (hk : stepG P R l Q f k listed q a w) : WG P R l Q (f + 1) listed a w := by
  refine ⟨fun hR => ⟨fun h1 => (by rw [hr] at h1; cases h1), fun z hz => ?_⟩⟩
  rw [hr] at hz
  simp only [List.mem_cons, List.not_mem_nil, or_false] at hz
  rcases hz with rfl | rfl | rfl
  · exact hi.op hR hi0
  · exact hj.op hR hj0
  · exact hk.op hR hk0
theorem WG_four {f : Nat} {listed : Array Bool} {a : Act} {w : World} (i j k m : Nat) {o p q r : Oper} (hi0 : l[i]? = some o) (hj0 : l[j]? = some p) (hk0 : l[k]? = some q) (hm0 : l[m]? = some r) (hr : Region.ready .any l.toArray listed = [i, j, k, m]) (hi : stepG P R l Q f i listed o a w) (hj : stepG P R l Q f j listed p a w) (hk : stepG P R l Q f k listed q a w) (hm : stepG P R l Q f m listed r a w) : WG P R l Q (f + 1) listed a w := by
  refine ⟨fun hR => ⟨fun h1 => (by rw [hr] at h1; cases h1), fun z hz => ?_⟩⟩
  rw [hr] at hz
  simp only [List.mem_cons, List.not_mem_nil, or_false] at hz
  rcases hz with rfl | rfl | rfl | rfl
  · exact hi.op hR hi0
  · exact hj.op hR hj0
  · exact hk.op hR hk0
  · exact hm.op hR hm0
theorem WG_done {f : Nat} {listed : Array Bool} {a : Act} {w : World} (hr : Region.ready .any l.toArray listed = []) (h : Q .normal a w) : WG P R l Q f listed a w := by
  cases f with
  | zero => exact ⟨fun _ => ⟨hr, h⟩⟩
  | succ f => exact ⟨fun _ => ⟨fun _ => h, fun i hi => by rw [hr] at hi; cases hi⟩⟩
theorem wp_region_graph {id : Nat} {a : Act} {w : World} (R : World → World → Prop) (hR : Pre R) (hm : P.follows .mixedOrders = true) (h : ∀ w', w'.heap = w.heap → Below w.heap.size w w' → WG P R l Q l.length (Array.replicate l.length false) a w') : (Code.region id l.toArray true).wp P Q a w := by
  refine wp_region_any hm (wpAny_of_wpG (R := R) _ _ _ _ ?_)
  have := (h w.drew rfl (Below.refl _ _).drew).out hR
  simpa using this
end

section
variable {P : Program} {N : Nat} {l : List Oper} {Q : Exit → Act → World → Prop}
theorem WT_three {f : Nat} {listed : Array Bool} {a : Act} {w : World} (i j k : Nat) {o p q : Oper} (hi0 : l[i]? = some o) (hj0 : l[j]? = some p) (hk0 : l[k]? = some q) (hr : Region.ready .any l.toArray listed = [i, j, k]) (hi : stepT P N l Q f i listed o a w) (hj : stepT P N l Q f j listed p a w) (hk : stepT P N l Q f k listed q a w) : WT P N l Q (f + 1) listed a w := by
  refine ⟨⟨fun h1 => (by rw [hr] at h1; cases h1), fun z hz => ?_⟩⟩
  rw [hr] at hz
  simp only [List.mem_cons, List.not_mem_nil, or_false] at hz
  rcases hz with rfl | rfl | rfl
  · exact hi.op hi0
  · exact hj.op hj0
  · exact hk.op hk0
theorem WT_four {f : Nat} {listed : Array Bool} {a : Act} {w : World} (i j k m : Nat) {o p q r : Oper} (hi0 : l[i]? = some o) (hj0 : l[j]? = some p) (hk0 : l[k]? = some q) (hm0 : l[m]? = some r) (hr : Region.ready .any l.toArray listed = [i, j, k, m]) (hi : stepT P N l Q f i listed o a w) (hj : stepT P N l Q f j listed p a w) (hk : stepT P N l Q f k listed q a w) (hm : stepT P N l Q f m listed r a w) : WT P N l Q (f + 1) listed a w := by
  refine ⟨⟨fun h1 => (by rw [hr] at h1; cases h1), fun z hz => ?_⟩⟩
  rw [hr] at hz
  simp only [List.mem_cons, List.not_mem_nil, or_false] at hz
  rcases hz with rfl | rfl | rfl | rfl
  · exact hi.op hi0
  · exact hj.op hj0
  · exact hk.op hk0
  · exact hm.op hm0
end

/-- Four cells of block b are written. -/
def st4 (W : World) (b : Nat) (x0 x1 x2 x3 : Value) : World := (((W.setCell ⟨b, 0, none⟩ x0).setCell ⟨b, 1, none⟩ x1).setCell ⟨b, 2, none⟩ x2).setCell ⟨b, 3, none⟩ x3
theorem below_st4 (W : World) {N b : Nat} (h : N ≤ b) (x0 x1 x2 x3 : Value) : Below N W (st4 W b x0 x1 x2 x3) :=
  ((((Below.refl _ _).setCell (p := ⟨b, 0, none⟩) h _).setCell (p := ⟨b, 1, none⟩) h _).setCell (p := ⟨b, 2, none⟩) h _).setCell (p := ⟨b, 3, none⟩) h _
theorem Blk.st4 {W : World} {b : Nat} {y0 y1 y2 y3 : Value} (h : Blk W b #[y0, y1, y2, y3]) (x0 x1 x2 x3 : Value) : Blk (st4 W b x0 x1 x2 x3) b #[x0, x1, x2, x3] :=
  (((h.set 0 x0).set 1 x1).set 2 x2).set 3 x3
theorem Blk.st4o {W : World} {b b' : Nat} {cs : Array Value} (h : Blk W b cs) (hb : b' ≠ b) (x0 x1 x2 x3 : Value) : Blk (Go.Proofs.Ytfdlhhinomjakaa.st4 W b' x0 x1 x2 x3) b cs :=
  (((h.other (p := ⟨b', 0, none⟩) hb x0).other (p := ⟨b', 1, none⟩) hb x1).other (p := ⟨b', 2, none⟩) hb x2).other (p := ⟨b', 3, none⟩) hb x3
end
end Go.Proofs.Ytfdlhhinomjakaa
