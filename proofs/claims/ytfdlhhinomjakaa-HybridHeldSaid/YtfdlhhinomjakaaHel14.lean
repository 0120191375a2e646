/-
  Texts of this claim, in their build order: Lib7.
-/
import Derived.Test.YtfdlhhinomjakaaHel9
import Derived.Test.YtfdlhhinomjakaaHel3

namespace Go.Proofs.Ytfdlhhinomjakaa
section
open Go.RowKit

section
variable {P : Program} {ops : Array Oper} {md : Region.Mode} {C : Bool → World → Prop} {m : Nat}

/-- Operation number i yields v: number m turns the phase, each other one keeps it. -/
def okIn (P : Program) (C : Bool → World → Prop) (m i : Nat) (o : Oper) (a : Act) (v : Value) : Prop :=
  if i = m then ∀ w, C false w → ∃ w', (execOp a.eval o).run P w = .ok (.value v) w' ∧ C true w' else ∀ b w, C b w → o.quietAt P a (C b) w v
def qOp2 (P : Program) (ops : Array Oper) (C : Bool → World → Prop) (m i : Nat) (K : Act → Prop) (a : Act) : Prop :=
  match ops[i]? with
  | none => K a
  | some o => if Region.wanted o (yielded ops a.tmps) then ∃ v, okIn P C m i o a v ∧ K (a.put o.dst v) else K (a.put o.dst undef)
def YieldsIn2 (P : Program) (ops : Array Oper) (C : Bool → World → Prop) (m i : Nat) (o : Oper) (v : Value) (a : Act) : Prop :=
  (Region.wanted o (yielded ops a.tmps) = true ∧ okIn P C m i o a v) ∨ (Region.wanted o (yielded ops a.tmps) = false ∧ v = undef)

theorem qOp2_mono {i : Nat} {a : Act} {K K' : Act → Prop} (h : ∀ a, K a → K' a) (hh : qOp2 P ops C m i K a) : qOp2 P ops C m i K' a := by
  unfold qOp2 at *
  split
  · exact h _ (by simpa [*] using hh)
  · rename_i o ho
    simp only [ho] at hh
    split
    · rename_i hw
      simp only [hw, if_true] at hh
      obtain ⟨v, h1, h2⟩ := hh
      exact ⟨v, h1, h _ h2⟩
    · rename_i hw
      simp only [hw] at hh
      exact h _ hh

theorem okIn_congr {i : Nat} {o : Oper} {a a' : Act} {v : Value} (he : execOp a'.eval o = execOp a.eval o) (h : okIn P C m i o a v) : okIn P C m i o a' v := by
  unfold okIn Oper.quietAt at *
  rw [he]
  exact h

theorem YieldsIn2.qOp {i : Nat} {o : Oper} {v : Value} {a : Act} (hi : ops[i]? = some o) (hy : YieldsIn2 P ops C m i o v a) {K : Act → Prop} (h : K (a.put o.dst v)) : qOp2 P ops C m i K a := by
  unfold qOp2
  simp only [hi]
  rcases hy with ⟨hw, hv⟩ | ⟨hw, rfl⟩
  · simp only [hw, if_true]; exact ⟨v, hv, h⟩
  · simp only [hw, Bool.false_eq_true, if_false]; exact h

theorem yieldsIn2_of_qOp {i : Nat} {o : Oper} {a : Act} {K : Act → Prop} (hi : ops[i]? = some o) (h : qOp2 P ops C m i K a) : ∃ v, YieldsIn2 P ops C m i o v a ∧ K (a.put o.dst v) := by
  unfold qOp2 at h
  simp only [hi] at h
  by_cases hw : Region.wanted o (yielded ops a.tmps) = true
  · simp only [hw, if_true] at h
    obtain ⟨v, h1, h2⟩ := h
    exact ⟨v, .inl ⟨hw, h1⟩, h2⟩
  · simp only [hw] at h
    exact ⟨undef, .inr ⟨by simpa using hw, rfl⟩, h⟩

theorem qOp2_put {i j : Nat} {oi oj : Oper} {v : Value} (hj : ops[j]? = some oj) (hap : oi.apart ops oj = true)
    (hsi : ∀ cs b, oi.op ≠ .select cs b) (hsj : ∀ cs b, oj.op ≠ .select cs b) {K : Act → Prop} {a : Act}
    (hy : YieldsIn2 P ops C m i oi v a) (h : qOp2 P ops C m j K (a.put oi.dst v)) :
    qOp2 P ops C m j (fun a' => YieldsIn2 P ops C m i oi v a' ∧ K (a'.put oi.dst v)) a := by
  obtain ⟨h1, h2, h3⟩ := Oper.apart_spec hap
  have keep : ∀ (a : Act), YieldsIn2 P ops C m i oi v a → ∀ u, YieldsIn2 P ops C m i oi v (a.put oj.dst u) := fun a hy u => by
    unfold YieldsIn2 at *
    rw [wanted_put oi a oj.dst u h3]
    rcases hy with ⟨hw, hv⟩ | hy
    · exact .inl ⟨hw, okIn_congr (execOp_put oi hsi a oj.dst u h3) hv⟩
    · exact .inr hy
  unfold qOp2 at *
  simp only [hj] at *
  rw [wanted_put oj a oi.dst v h1] at h
  split
  · rename_i hw
    simp only [hw, if_true] at h
    obtain ⟨u, hu, hn⟩ := h
    exact ⟨u, okIn_congr (execOp_put oj hsj a oi.dst v h1).symm hu, keep a hy u, by rw [← Act.put_comm a v u h2]; exact hn⟩
  · rename_i hw
    simp only [hw] at h
    exact ⟨keep a hy _, by rw [← Act.put_comm a v undef h2]; exact h⟩

def wpAnyQL2 (P : Program) (md : Region.Mode) (ops : Array Oper) (C : Bool → World → Prop) (m n : Nat) (L : Array Bool → Act → Prop) : Nat → Array Bool → Act → Prop
  | 0, listed, a => L listed a
  | f + 1, listed, a =>
    Region.ready md ops listed ≠ [] ∧ ∀ i ∈ Region.ready md ops listed, i < n ∧ qOp2 P ops C m i (wpAnyQL2 P md ops C m n L f (listed.setIfInBounds i true)) a

theorem wpOp_of_qOp2 {i : Nat} {a : Act} {b b' : Bool} {K : Act → Prop} {K' : Act → World → Prop} {Q' : Exit → Act → World → Prop} {w : World} (hmg : ∀ o, ops[m]? = some o → o.guard = none) (hC : C b w)
    (hb : if i = m then b = false ∧ b' = true else b' = b) (h : ∀ a w', C b' w' → K a → K' a w') (hh : qOp2 P ops C m i K a) (hin : i < ops.size) : wpOp P ops Q' i K' a w := by
  unfold qOp2 at hh
  unfold wpOp
  split
  · rename_i ho; rw [Array.getElem?_eq_none_iff] at ho; omega
  · rename_i o ho
    simp only [ho] at hh
    split
    · rename_i hw
      simp only [hw, if_true] at hh
      obtain ⟨v, h1, h2⟩ := hh
      refine .inl ?_
      unfold okIn at h1
      by_cases him : i = m
      · rw [if_pos him] at h1 hb
        obtain ⟨rfl, rfl⟩ := hb
        obtain ⟨w', hr, hw'⟩ := h1 w hC
        unfold Oper.wp
        rw [hr]
        exact h _ _ hw' h2
      · rw [if_neg him] at h1 hb
        subst hb
        exact Oper.wp_of_quiet hC h ⟨v, h1 b', h2⟩
    · rename_i hw
      by_cases him : i = m
      · subst him
        exact absurd (by simp [Region.wanted, hmg o ho]) hw
      · rw [if_neg him] at hb
        subst hb
        simp only [hw] at hh
        exact h _ _ hC hh

theorem wpAny_of_qhead2 {n g : Nat} {L : Array Bool → Act → Prop} {Q' : Exit → Act → World → Prop} (hmg : ∀ o, ops[m]? = some o → o.guard = none)
    (hL : ∀ listed a w, C (listed.getD m false) w → L listed a → wpAny P md ops Q' g listed a w) :
    ∀ (f : Nat) (listed : Array Bool) (a : Act) (w : World), listed.size = ops.size → C (listed.getD m false) w → wpAnyQL2 P md ops C m n L f listed a → wpAny P md ops Q' (f + g) listed a w
  | 0, listed, a, w, _, hw, h => by rw [Nat.zero_add]; exact hL _ _ _ hw h
  | f + 1, listed, a, w, hs, hw, h => by
    rw [show f + 1 + g = (f + g) + 1 by omega]
    refine ⟨fun h0 => absurd h0 h.1, fun i hi => ?_⟩
    obtain ⟨hun, oi, hoi, -⟩ := mem_ready.1 hi
    have hio : i < ops.size := (Array.getElem?_eq_some_iff.1 hoi).1
    refine wpOp_of_qOp2 (b' := (listed.setIfInBounds i true).getD m false) hmg hw ?_ (fun a' w' hw' h' => wpAny_of_qhead2 hmg hL f _ a' w' (by simp [hs]) hw' h') (h.2 i hi).2 hio
    by_cases him : i = m
    · subst him
      rw [if_pos rfl]
      exact ⟨getD_both hun, by simp [hs, hio]⟩
    · rw [if_neg him]
      exact getD_set_ne false him

theorem wpAnyQL2_first {n i : Nat} {oi : Oper} {v : Value} {L : Array Bool → Act → Prop} (hi : ops[i]? = some oi) (hsel : ∀ (j : Nat) (o : Oper) cs b, ops[j]? = some o → o.op ≠ .select cs b)
    (hs : Region.sinkB md ops n = true) (hc : Region.chainB md ops n = true) (hn : n < ops.size) (hin : i < n)
    (hdone : ∀ listed a, L listed a → ∀ j ∈ Region.ready md ops listed, n ≤ j) :
    ∀ (f : Nat) (listed : Array Bool) (a : Act), HeadInv md ops n listed →
      (∀ j oj, ops[j]? = some oj → j ≠ i → listed.getD j true = false → (∀ e ∈ oj.after, Region.binds md e = true → e.on ≠ i) → oi.apart ops oj = true) →
      i ∈ Region.ready md ops listed → YieldsIn2 P ops C m i oi v a →
      wpAnyQL2 P md ops C m n L f (listed.setIfInBounds i true) (a.put oi.dst v) → wpAnyQL2 P md ops C m n L (f + 1) listed a := by
  intro f
  induction f with
  | zero =>
    intro listed a inv _ hr hy H
    have hun := (mem_ready.1 hr).1
    refine ⟨fun h => (by rw [h] at hr; cases hr), fun j hj => ?_⟩
    have hjn : j < n := by
      rcases Nat.lt_or_ge j n with h | h
      · exact h
      · exact absurd hj (tail_waits hs hc hn inv _ i rfl hin hun j h)
    refine ⟨hjn, ?_⟩
    by_cases hji : j = i
    · subst hji; exact hy.qOp hi H
    · have := hdone _ _ H j (ready_mono hj hji)
      omega
  | succ f ih =>
    intro listed a inv hfree hr hy H
    have hun := (mem_ready.1 hr).1
    refine ⟨fun h => (by rw [h] at hr; cases hr), fun j hj => ?_⟩
    have hjn : j < n := by
      rcases Nat.lt_or_ge j n with h | h
      · exact h
      · exact absurd hj (tail_waits hs hc hn inv _ i rfl hin hun j h)
    refine ⟨hjn, ?_⟩
    by_cases hji : j = i
    · subst hji; exact hy.qOp hi H
    · have h1 := (H.2 j (ready_mono hj hji)).2
      obtain ⟨hjun, oj, hoj, hall⟩ := mem_ready.1 hj
      have hnot : ∀ e ∈ oj.after, Region.binds md e = true → e.on ≠ i := fun e he hb heq => by
        have h1 := hall e he hb
        rw [heq, getD_both hun] at h1
        cases h1
      have h2 := qOp2_put hoj (hfree j oj hoj hji hjun hnot) (fun cs b => hsel i oi cs b hi) (fun cs b => hsel j oj cs b hoj) hy h1
      have hfree' : ∀ k ok, ops[k]? = some ok → k ≠ i → (listed.setIfInBounds j true).getD k true = false →
          (∀ e ∈ ok.after, Region.binds md e = true → e.on ≠ i) → oi.apart ops ok = true := fun k ok hk hki hun hno => by
        refine hfree k ok hk hki ?_ hno
        by_cases hjk : j = k
        · subst hjk; exact hjun
        · rw [getD_set_ne true hjk] at hun; exact hun
      refine qOp2_mono (fun a' h3 => ih (listed.setIfInBounds j true) a' (inv.set hj hjn) hfree' (ready_mono hr (Ne.symm hji)) h3.1 ?_) h2
      rw [Array.setIfInBounds_comm _ _ hji]
      exact h3.2

/-- The walk of the head, in index order from k on. -/
def wpQuiet2 (P : Program) (ops : Array Oper) (C : Bool → World → Prop) (m : Nat) (Q : Act → Prop) : Nat → List Oper → Act → Prop
  | _, [], a => Q a
  | k, o :: rest, a => if Region.wanted o (yielded ops a.tmps) then ∃ v, okIn P C m k o a v ∧ wpQuiet2 P ops C m Q (k + 1) rest (a.put o.dst v) else wpQuiet2 P ops C m Q (k + 1) rest (a.put o.dst undef)

theorem wpAnyQL2_lex {n g : Nat} {Lq : Act → Prop} (hsel : Region.noSelect ops = true) (hs : Region.sinkB md ops n = true) (hc : Region.chainB md ops n = true) (hn : n < ops.size) (hmn : m < n) :
    ∀ (l : List Oper) (k : Nat) (listed : Array Bool) (a : Act), (∀ j, j < l.length → l[j]? = ops[k + j]?) → k + l.length = n → HeadInv md ops n listed → (∀ j, j < k → listed.getD j false = true) →
    Region.lexHead md ops g l.length k listed = true → wpQuiet2 P ops C m Lq k l a →
    wpAnyQL2 P md ops C m n (fun listed' a' => listed'.getD m false = true ∧ Region.seqB md ops g n listed' = true ∧ Lq a') l.length listed a
  | [], k, listed, a, _, hk, _, hall, hB, h => by
    have : k = n := by simpa using hk
    subst this
    exact ⟨hall m hmn, by simpa [Region.lexHead] using hB, h⟩
  | o :: l, k, listed, a, hl, hk, inv, hall, hB, h => by
    have h0 : ops[k]? = some o := by simpa using (hl 0 (by simp)).symm
    simp only [List.length_cons, Region.lexHead, Bool.and_eq_true] at hB
    obtain ⟨⟨hr, hf⟩, hB'⟩ := hB
    have hkn : k < n := by simp only [List.length_cons] at hk; omega
    have hr' : k ∈ Region.ready md ops listed := by simpa using hr
    have hst : qOp2 P ops C m k (wpQuiet2 P ops C m Lq (k + 1) l) a := by unfold qOp2; simp only [h0]; exact h
    obtain ⟨v, hy, hK⟩ := yieldsIn2_of_qOp h0 hst
    exact wpAnyQL2_first h0 (Region.noSelect_spec hsel) hs hc hn hkn (fun listed' a' hL => seqB_ready hL.2.1) l.length listed a inv (Region.free_spec h0 hf) hr' hy
      (wpAnyQL2_lex hsel hs hc hn hmn l (k + 1) _ _ (fun j hj => by have := hl (j + 1) (by simp; omega); simpa [Nat.add_assoc, Nat.add_comm 1 j] using this) (by simp only [List.length_cons] at hk; omega) (inv.set hr' hkn)
        (fun j hj => by
          by_cases hjk : j = k
          · subst hjk
            have : j < listed.size := by rw [inv.size]; omega
            simp [this]
          · exact getD_set_true (hall j (by omega))) hB' hK)
end

section
variable {P : Program} {ops : Array Oper}

theorem wpAny_quiet_made {Q : Exit → Act → World → Prop} {a : Act} {w : World} {l : List Oper} (n m : Nat) (C : Bool → World → Prop) (hB : Region.lexTailB .any l.toArray n = true) (hmg : (l[m]?.map (·.guard)) = some none)
    (hC : C false { w with drawn := w.drawn + 1 })
    (h : wpQuiet2 P l.toArray C m (fun a' => ∀ w', C true w' → wpList P l.toArray Q (l.drop n) a' w') 0 (l.take n) a) (hmn : m < n) : wpAny P .any l.toArray Q l.toArray.size (Array.replicate l.toArray.size false) a { w with drawn := w.drawn + 1 } := by
  simp only [Region.lexTailB, Bool.and_eq_true, decide_eq_true_eq] at hB
  obtain ⟨⟨⟨⟨hsel, hn⟩, hs⟩, hc⟩, hlex⟩ := hB
  have hn' : n < l.length := by simpa using hn
  have htl : (l.take n).length = n := by simp; omega
  have hdl : (l.drop n).length = l.toArray.size - n := by simp
  have inv0 : HeadInv .any l.toArray n (Array.replicate l.toArray.size false) :=
    ⟨by simp, fun j oj _ hl => (by rw [getD_replicate_false] at hl; cases hl), fun t _ ht => getD_in (by simpa using ht) (getD_replicate_false _ _)⟩
  have H := wpAnyQL2_lex (md := .any) (g := l.toArray.size - n) hsel hs hc hn hmn (l.take n) 0 _ a (fun j hj => by
    have hj' : j < n := by rw [htl] at hj; exact hj
    simp [hj']) (by simpa using htl) inv0 (fun j hj => absurd hj (Nat.not_lt_zero _)) (by rw [htl]; exact hlex) h
  have hg : ∀ o, l.toArray[m]? = some o → o.guard = none := fun o ho => by
    have ho' : l[m]? = some o := by simpa using ho
    rw [ho'] at hmg
    simpa using hmg
  have := wpAny_of_qhead2 (C := C) (m := m) (Q' := Q) (g := l.toArray.size - n) hg (fun listed a' w' hw' hL => by
    rw [hL.1] at hw'
    have := wpAny_of_seq (md := .any) (Q' := Q) (l.drop n) n listed a' w' (fun j => by simp [List.getElem?_drop]) (by rw [hdl]; exact hL.2.1) (hL.2.2 w' hw')
    rwa [hdl] at this) _ _ _ _ (by simp) (by rw [getD_replicate_false]; exact hC) H
  rw [htl, show n + (l.toArray.size - n) = l.toArray.size by omega] at this
  exact this

/-- Number m makes a block of known cells; all others only read. -/
def phC (W : World) (cs : Array Value) (b : Bool) (w' : World) : Prop := Below W.heap.size W w' ∧ (bif b then Blk w' W.heap.size cs else w'.heap.size = W.heap.size)

theorem wp_region_quiet_made {id : Nat} {Q : Exit → Act → World → Prop} {a : Act} {w : World} {l : List Oper} (n m : Nat) (cs : Array Value) (hm : P.follows .mixedOrders = true) (hB : Region.lexTailB .any l.toArray n = true) (hmg : (l[m]?.map (·.guard)) = some none) (hmn : m < n)
    (h : wpQuiet2 P l.toArray (phC w cs) m (fun a' => ∀ w', Below w.heap.size w w' → Blk w' w.heap.size cs → wpList P l.toArray Q (l.drop n) a' w') 0 (l.take n) a) : (Code.region id l.toArray true).wp P Q a w :=
  wp_region_any hm (wpAny_quiet_made n m (phC w cs) hB hmg ⟨(Below.refl _ _).drew, rfl⟩ (by simpa only [phC, and_imp, cond_true] using h) hmn)
theorem wpIn_region_quiet_made {id d r : Nat} {Q : Exit → Act → World → Prop} {a : Act} {w : World} {l : List Oper} (n m : Nat) (cs : Array Value) (hm : P.follows .mixedOrders = true) (hB : Region.lexTailB .any l.toArray n = true) (hmg : (l[m]?.map (·.guard)) = some none) (hmn : m < n)
    (hnd : noDeferB l = true) (hno : ¬ LetsOut Q)
    (h : wpQuiet2 P l.toArray (phC w cs) m (fun a' => ∀ w', Below w.heap.size w w' → Blk w' w.heap.size cs → wpList P l.toArray Q (l.drop n) a' w') 0 (l.take n) a) : (Code.region id l.toArray true).wpIn (Fence.wide.inRound r) d P Q a w :=
  wpIn_region_any hm (wpAnyIn_of_wpAny (noDefer_spec hnd) hno _ _ _ _ (wpAny_quiet_made n m (phC w cs) hB hmg ⟨(Below.refl _ _).drew, rfl⟩ (by simpa only [phC, and_imp, cond_true] using h) hmn))

/-- The walks, closed to the unifier's own reckoning. -/
structure WQ (P : Program) (ops : Array Oper) (C : World → Prop) (Q : Act → Prop) (l : List Oper) (a : Act) : Prop where
  out : wpQuiet P ops C Q l a
theorem WQ_nil {C : World → Prop} {Q : Act → Prop} {a : Act} (h : Q a) : WQ P ops C Q [] a := ⟨h⟩
theorem WQ_no {C : World → Prop} {Q : Act → Prop} {a : Act} {o : Oper} {rest : List Oper} (hw : Region.wanted o (yielded ops a.tmps) = false) (h : WQ P ops C Q rest (a.put o.dst undef)) : WQ P ops C Q (o :: rest) a := ⟨wpQuiet_no hw h.out⟩
theorem WQ_yes {C : World → Prop} {Q : Act → Prop} {a : Act} {o : Oper} {rest : List Oper} (hw : Region.wanted o (yielded ops a.tmps) = true)
    (h : ∃ v, (∀ w, C w → o.quietAt P a C w v) ∧ WQ P ops C Q rest (a.put o.dst v)) : WQ P ops C Q (o :: rest) a := by
  obtain ⟨v, h1, h2⟩ := h
  exact ⟨wpQuiet_yes hw ⟨v, h1, h2.out⟩⟩

theorem wpQuiet2_nil {C : Bool → World → Prop} {m k : Nat} {Q : Act → Prop} {a : Act} (h : Q a) : wpQuiet2 P ops C m Q k [] a := h
theorem wpQuiet2_no {C : Bool → World → Prop} {m k : Nat} {Q : Act → Prop} {a : Act} {o : Oper} {rest : List Oper} (hw : Region.wanted o (yielded ops a.tmps) = false) (h : wpQuiet2 P ops C m Q (k + 1) rest (a.put o.dst undef)) : wpQuiet2 P ops C m Q k (o :: rest) a := by
  unfold wpQuiet2; rw [if_neg (by rw [hw]; simp)]; exact h
theorem wpQuiet2_yes {W : World} {cs : Array Value} {m k : Nat} {Q : Act → Prop} {a : Act} {o : Oper} {rest : List Oper} (hw : Region.wanted o (yielded ops a.tmps) = true) (hk : k ≠ m)
    (h : ∃ v, (∀ w, Below W.heap.size W w → Oper.quietAt P o a (fun w' => w' = w) w v) ∧ wpQuiet2 P ops (phC W cs) m Q (k + 1) rest (a.put o.dst v)) : wpQuiet2 P ops (phC W cs) m Q k (o :: rest) a := by
  unfold wpQuiet2; rw [if_pos hw]
  obtain ⟨v, h1, h2⟩ := h
  refine ⟨v, ?_, h2⟩
  unfold okIn
  rw [if_neg hk]
  intro b w hw
  have h3 := h1 w hw.1
  unfold Oper.quietAt at h3 ⊢
  generalize (execOp a.eval o).run P w = r at *
  cases r with
  | ok n w' =>
    cases n <;> simp only [Oper.quietUpon] at h3 ⊢
    case value => exact h3
    case skip => exact h3
    case enter f args => exact ⟨h3.1, h3.2.mono fun e w'' ⟨h4, h5⟩ => ⟨h4, by rw [h5]; exact hw⟩⟩
  | halt x w' => simp only [Oper.quietUpon] at h3
theorem wpQuiet2_at {W : World} {cs : Array Value} {m : Nat} {Q : Act → Prop} {a : Act} {o : Oper} {rest : List Oper} (hw : Region.wanted o (yielded ops a.tmps) = true)
    (h : ∃ v, (∀ w, Below W.heap.size W w → w.heap.size = W.heap.size → ∃ w', (execOp a.eval o).run P w = .ok (.value v) w' ∧ Below W.heap.size W w' ∧ Blk w' W.heap.size cs) ∧ wpQuiet2 P ops (phC W cs) m Q (m + 1) rest (a.put o.dst v)) : wpQuiet2 P ops (phC W cs) m Q m (o :: rest) a := by
  unfold wpQuiet2; rw [if_pos hw]
  obtain ⟨v, h1, h2⟩ := h
  refine ⟨v, ?_, h2⟩
  unfold okIn
  rw [if_pos rfl]
  intro w hw
  exact h1 w hw.1 hw.2

structure WQ2 (P : Program) (ops : Array Oper) (W : World) (cs : Array Value) (m : Nat) (Q : Act → Prop) (k : Nat) (l : List Oper) (a : Act) : Prop where
  out : wpQuiet2 P ops (phC W cs) m Q k l a
theorem WQ2_nil {W : World} {cs : Array Value} {m k : Nat} {Q : Act → Prop} {a : Act} (h : Q a) : WQ2 P ops W cs m Q k [] a := ⟨h⟩
theorem WQ2_no {W : World} {cs : Array Value} {m k : Nat} {Q : Act → Prop} {a : Act} {o : Oper} {rest : List Oper} (hw : Region.wanted o (yielded ops a.tmps) = false) (h : WQ2 P ops W cs m Q (k + 1) rest (a.put o.dst undef)) : WQ2 P ops W cs m Q k (o :: rest) a := ⟨wpQuiet2_no hw h.out⟩
theorem WQ2_yes {W : World} {cs : Array Value} {m k : Nat} {Q : Act → Prop} {a : Act} {o : Oper} {rest : List Oper} (hw : Region.wanted o (yielded ops a.tmps) = true) (hk : k ≠ m)
    (h : ∃ v, (∀ w, Below W.heap.size W w → Oper.quietAt P o a (fun w' => w' = w) w v) ∧ WQ2 P ops W cs m Q (k + 1) rest (a.put o.dst v)) : WQ2 P ops W cs m Q k (o :: rest) a := by
  obtain ⟨v, h1, h2⟩ := h
  exact ⟨wpQuiet2_yes hw hk ⟨v, h1, h2.out⟩⟩
theorem WQ2_at {W : World} {cs : Array Value} {m k : Nat} {Q : Act → Prop} {a : Act} {o : Oper} {rest : List Oper} (hw : Region.wanted o (yielded ops a.tmps) = true) (hk : k = m)
    (h : ∃ v, (∀ w, Below W.heap.size W w → w.heap.size = W.heap.size → ∃ w', (execOp a.eval o).run P w = .ok (.value v) w' ∧ Below W.heap.size W w' ∧ Blk w' W.heap.size cs) ∧ WQ2 P ops W cs m Q (k + 1) rest (a.put o.dst v)) : WQ2 P ops W cs m Q k (o :: rest) a := by
  subst hk
  obtain ⟨v, h1, h2⟩ := h
  exact ⟨wpQuiet2_at hw ⟨v, h1, h2.out⟩⟩
end
end
end Go.Proofs.Ytfdlhhinomjakaa
