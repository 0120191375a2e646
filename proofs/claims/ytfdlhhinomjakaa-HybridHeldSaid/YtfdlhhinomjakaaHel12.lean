/-
  Texts of this claim, in their build order: Lib6 C2 C3 C5.
-/
import Derived.Test.YtfdlhhinomjakaaHel1
import Derived.Test.YtfdlhhinomjakaaHel11

namespace Go.Proofs.Ytfdlhhinomjakaa
section
open Go.RowKit

section
variable {P : Program} {ops : Array Oper} {md : Region.Mode} {C : World → Prop}

/-- Each operation behind place n waits for one from n on. -/
def chainC (md : Region.Mode) (ops : Array Oper) (n : Nat) : Bool :=
  (List.range ops.size).all fun t => decide (t ≤ n) || (List.range t).any fun j => decide (n ≤ j) && Region.waitsFor md ops t j

theorem tail_waitsC {n : Nat} {listed : Array Bool} (hs : Region.sinkB md ops n = true) (hc : chainC md ops n = true) (hn : n < ops.size) (inv : HeadInv md ops n listed) :
    ∀ (d i : Nat), n - i = d → i < n → listed.getD i true = false → ∀ t, n ≤ t → t ∉ Region.ready md ops listed := by
  intro d
  induction d using Nat.strongRecOn with
  | _ d ih =>
    intro i hd hi hun t ht hr
    obtain ⟨_, ot, hot, hall⟩ := mem_ready.1 hr
    have htlt : t < ops.size := (Array.getElem?_eq_some_iff.1 hot).1
    by_cases htn : t = n
    · subst htn
      have h1 := List.all_eq_true.1 hs i (List.mem_range.2 hi)
      obtain ⟨j, hj, hj2⟩ := List.any_eq_true.1 h1
      simp only [Bool.and_eq_true, decide_eq_true_eq] at hj2
      obtain ⟨oj, hoj, e, he, hb, hon⟩ := Region.waitsFor_spec hj2.2
      have hjle : j ≤ t := by have := List.mem_range.1 hj; omega
      by_cases hjt : j = t
      · subst hjt
        have : oj = ot := Option.some.inj (hoj.symm.trans hot)
        subst this
        have h2 := hall e he hb
        rw [hon, getD_both hun] at h2
        cases h2
      · cases hl : listed.getD j false with
        | true =>
          have h2 := inv.closed j oj hoj hl e he hb
          rw [hon, getD_both hun] at h2
          cases h2
        | false =>
          have hjs : j < listed.size := by rw [inv.size]; omega
          exact ih (t - j) (by omega) j rfl (by omega) (getD_in hjs hl) t (Nat.le_refl _) hr
    · have h1 := List.all_eq_true.1 hc t (List.mem_range.2 htlt)
      simp only [Bool.or_eq_true, decide_eq_true_eq] at h1
      rcases h1 with h1 | h1
      · omega
      · obtain ⟨j, hj, hj2⟩ := List.any_eq_true.1 h1
        simp only [Bool.and_eq_true, decide_eq_true_eq] at hj2
        obtain ⟨o', ho', e, he, hb, hon⟩ := Region.waitsFor_spec hj2.2
        have : o' = ot := Option.some.inj (ho'.symm.trans hot)
        subst this
        have h2 := hall e he hb
        have hjt := List.mem_range.1 hj
        rw [hon, getD_both (inv.tail j hj2.1 (by omega))] at h2
        cases h2

theorem wpAnyQL_firstC {n i : Nat} {oi : Oper} {v : Value} {L : Array Bool → Act → Prop} (hi : ops[i]? = some oi) (hsel : ∀ (j : Nat) (o : Oper) cs b, ops[j]? = some o → o.op ≠ .select cs b)
    (hs : Region.sinkB md ops n = true) (hc : chainC md ops n = true) (hn : n < ops.size) (hin : i < n)
    (hdone : ∀ listed a, L listed a → ∀ j ∈ Region.ready md ops listed, n ≤ j) :
    ∀ (f : Nat) (listed : Array Bool) (a : Act), HeadInv md ops n listed →
      (∀ j oj, ops[j]? = some oj → j ≠ i → listed.getD j true = false → (∀ e ∈ oj.after, Region.binds md e = true → e.on ≠ i) → oi.apart ops oj = true) →
      i ∈ Region.ready md ops listed → YieldsIn P ops C oi v a →
      wpAnyQL P md ops C n L f (listed.setIfInBounds i true) (a.put oi.dst v) → wpAnyQL P md ops C n L (f + 1) listed a := by
  intro f
  induction f with
  | zero =>
    intro listed a inv _ hr hy H
    have hun := (mem_ready.1 hr).1
    refine ⟨fun h => (by rw [h] at hr; cases hr), fun j hj => ?_⟩
    have hjn : j < n := by
      rcases Nat.lt_or_ge j n with h | h
      · exact h
      · exact absurd hj (tail_waitsC hs hc hn inv _ i rfl hin hun j h)
    refine ⟨hjn, ?_⟩
    by_cases hji : j = i
    · subst hji; exact hy.qOp hi H
    · have := hdone _ _ H j (ready_mono hj hji)
      omega
  | succ f ih =>
    intro listed a inv hfree hr hy H
    have hun := (mem_ready.1 hr).1
    refine ⟨fun h => (by rw [h] at hr; cases hr), fun j hj => ?_⟩
    have hjn : j < n := by
      rcases Nat.lt_or_ge j n with h | h
      · exact h
      · exact absurd hj (tail_waitsC hs hc hn inv _ i rfl hin hun j h)
    refine ⟨hjn, ?_⟩
    by_cases hji : j = i
    · subst hji; exact hy.qOp hi H
    · have h1 := (H.2 j (ready_mono hj hji)).2
      obtain ⟨hjun, oj, hoj, hall⟩ := mem_ready.1 hj
      have hnot : ∀ e ∈ oj.after, Region.binds md e = true → e.on ≠ i := fun e he hb heq => by
        have h1 := hall e he hb
        rw [heq, getD_both hun] at h1
        cases h1
      have h2 := qOp_put hoj (hfree j oj hoj hji hjun hnot) (fun cs b => hsel i oi cs b hi) (fun cs b => hsel j oj cs b hoj) hy h1
      have hfree' : ∀ k ok, ops[k]? = some ok → k ≠ i → (listed.setIfInBounds j true).getD k true = false →
          (∀ e ∈ ok.after, Region.binds md e = true → e.on ≠ i) → oi.apart ops ok = true := fun k ok hk hki hun hno => by
        refine hfree k ok hk hki ?_ hno
        by_cases hjk : j = k
        · subst hjk; exact hjun
        · rw [getD_set_ne true hjk] at hun; exact hun
      refine qOp_mono (fun a' h3 => ih (listed.setIfInBounds j true) a' (inv.set hj hjn) hfree' (ready_mono hr (Ne.symm hji)) h3.1 ?_) h2
      rw [Array.setIfInBounds_comm _ _ hji]
      exact h3.2

/-- The head in the text's order, then n alone, then the rest in the text's order. -/
def midB (md : Region.Mode) (ops : Array Oper) (n : Nat) (listed : Array Bool) : Bool :=
  decide (Region.ready md ops listed = [n]) && Region.lexFrom md ops (ops.size - (n + 1)) (n + 1) (listed.setIfInBounds n true)
def headC (md : Region.Mode) (ops : Array Oper) (n : Nat) : Nat → Nat → Array Bool → Bool
  | 0, _, listed => midB md ops n listed
  | f + 1, k, listed => (Region.ready md ops listed).contains k && Region.free md ops listed k && headC md ops n f (k + 1) (listed.setIfInBounds k true)
def lexCallB (md : Region.Mode) (ops : Array Oper) (n : Nat) : Bool :=
  Region.noSelect ops && decide (n < ops.size) && Region.sinkB md ops n && chainC md ops n && headC md ops n n 0 (Array.replicate ops.size false)

theorem midB_ready {n : Nat} {listed : Array Bool} (h : midB md ops n listed = true) : ∀ j ∈ Region.ready md ops listed, n ≤ j := by
  simp only [midB, Bool.and_eq_true, decide_eq_true_eq] at h
  intro j hj
  rw [h.1] at hj
  have : j = n := by simpa using hj
  omega

theorem wpAnyQL_headC {n : Nat} {Lq : Act → Prop} (hsel : Region.noSelect ops = true) (hs : Region.sinkB md ops n = true) (hc : chainC md ops n = true) (hn : n < ops.size) :
    ∀ (l : List Oper) (k : Nat) (listed : Array Bool) (a : Act), (∀ j, j < l.length → l[j]? = ops[k + j]?) → k + l.length = n → HeadInv md ops n listed →
    headC md ops n l.length k listed = true → wpQuiet P ops C Lq l a →
    wpAnyQL P md ops C n (fun listed' a' => midB md ops n listed' = true ∧ Lq a') l.length listed a
  | [], _, listed, a, _, _, _, hB, h => ⟨hB, h⟩
  | o :: l, k, listed, a, hl, hk, inv, hB, h => by
    have h0 : ops[k]? = some o := by simpa using (hl 0 (by simp)).symm
    simp only [List.length_cons, headC, Bool.and_eq_true] at hB
    obtain ⟨⟨hr, hf⟩, hB'⟩ := hB
    have hkn : k < n := by simp only [List.length_cons] at hk; omega
    have hr' : k ∈ Region.ready md ops listed := by simpa using hr
    have hst : qOp P ops C k (wpQuiet P ops C Lq l) a := by unfold qOp; simp only [h0]; exact h
    obtain ⟨v, hy, hK⟩ := yieldsIn_of_qOp h0 hst
    exact wpAnyQL_firstC h0 (Region.noSelect_spec hsel) hs hc hn hkn (fun listed' a' hL => midB_ready hL.1) l.length listed a inv (Region.free_spec h0 hf) hr' hy
      (wpAnyQL_headC hsel hs hc hn l (k + 1) _ _ (fun j hj => by have := hl (j + 1) (by simp; omega); simpa [Nat.add_assoc, Nat.add_comm 1 j] using this) (by simp only [List.length_cons] at hk; omega) (inv.set hr' hkn) hB' hK)

/-- What is asked behind the one operation. -/
def MidQ (K : Act → World → Prop) (Q : Exit → Act → World → Prop) : Exit → Act → World → Prop
  | .normal, a, w => K a w
  | e, a, w => Q e a w

theorem upon_midQ {o : Oper} {a : Act} {K K' : Act → World → Prop} {Q : Exit → Act → World → Prop} (hK : ∀ a w, K a w → K' a w) {r : Result Next}
    (h : o.upon P a K (MidQ K Q) r) : o.upon P a K' Q r := by
  cases r with
  | ok n w' =>
    cases n <;> simp only [Oper.upon] at h ⊢ <;>
      first
        | exact hK _ _ h
        | exact Calls.mono h (fun e w'' he => by cases e <;> first | exact hK _ _ he | exact he)
        | exact Rows.mono h (fun _ _ he => hK _ _ he)
  | halt x w' => cases x <;> simp only [Oper.upon] at h ⊢ <;> exact h

theorem wpOp_of_mid {o : Oper} {n : Nat} {a : Act} {w : World} {K : Act → World → Prop} {Q : Exit → Act → World → Prop} (h0 : ops[n]? = some o)
    (h : wpList P ops (MidQ K Q) [o] a w) : wpOp P ops Q n K a w := by
  unfold wpOp
  simp only [h0]
  unfold wpList at h
  split
  · rename_i hw
    rw [if_pos hw] at h
    rcases h with h | h
    · exact .inl (upon_midQ (K := wpList P ops (MidQ K Q) []) (fun _ _ h => h) (by
      unfold Oper.wp at h
      revert h
      generalize (execOp a.eval o).run P w = r
      intro h
      cases r with
      | ok x w' =>
        cases x <;> simp only [Oper.upon] at h ⊢ <;> exact h
      | halt x w' => cases x <;> simp only [Oper.upon] at h ⊢ <;> exact h))
    · exact .inr ⟨h.1, h.2⟩
  · rename_i hw
    rw [if_neg hw] at h
    exact h

/-- A region that draws its order: quiet up to n, then n, whatever it does, then quiet in a class that n's own world gives. -/
theorem wp_region_quiet_call {id : Nat} {Q : Exit → Act → World → Prop} {a : Act} {w : World} {l : List Oper} {o : Oper} (n : Nat) (C : World → Prop) (hm : P.follows .mixedOrders = true) (hB : lexCallB .any l.toArray n = true)
    (ho : l[n]? = some o) (hC : C { w with drawn := w.drawn + 1 })
    (h : wpQuiet P l.toArray C (fun a' => ∀ w', C w' → wpList P l.toArray (MidQ (fun a2 w2 => ∃ C2 : World → Prop, C2 w2 ∧ wpQuiet P l.toArray C2 (fun a3 => ∀ w3, C2 w3 → Q .normal a3 w3) (l.drop (n + 1)) a2) Q) [o] a' w') (l.take n) a) : (Code.region id l.toArray true).wp P Q a w := by
  simp only [lexCallB, Bool.and_eq_true, decide_eq_true_eq] at hB
  obtain ⟨⟨⟨⟨hsel, hn⟩, hs⟩, hc⟩, hlex⟩ := hB
  have hn' : n < l.length := by simpa using hn
  have htl : (l.take n).length = n := by simp; omega
  have hdl : (l.drop (n + 1)).length = l.toArray.size - (n + 1) := by simp
  have inv0 : HeadInv .any l.toArray n (Array.replicate l.toArray.size false) :=
    ⟨by simp, fun j oj _ hl => (by rw [getD_replicate_false] at hl; cases hl), fun t _ ht => getD_in (by simpa using ht) (getD_replicate_false _ _)⟩
  have H := wpAnyQL_headC (md := .any) hsel hs hc hn (l.take n) 0 _ a (fun j hj => by
    have hj' : j < n := by rw [htl] at hj; exact hj
    simp [hj']) (by simpa using htl) inv0 (by rw [htl]; exact hlex) h
  refine wp_region_any hm ?_
  have h0 : l.toArray[n]? = some o := by simpa using ho
  have := wpAny_of_qhead (C := C) (Q' := Q) (g := (l.drop (n + 1)).length + 1) (fun listed a' w' hw' hL => by
    have hb := hL.1
    simp only [midB, Bool.and_eq_true, decide_eq_true_eq] at hb
    refine ⟨fun h1 => (by rw [hb.1] at h1; cases h1), fun i hi => ?_⟩
    rw [hb.1] at hi
    have hik : i = n := by simpa using hi
    subst hik
    refine wpOp_mono (fun a2 w2 h2 => ?_) (wpOp_of_mid h0 (hL.2 w' hw'))
    obtain ⟨C2, hC2, hq⟩ := h2
    refine wpAny_of_quiet (C := C2) (Q := fun a3 => ∀ w3, C2 w3 → Q .normal a3 w3) (fun _ w3 hw3 h3 => h3 w3 hw3) _ _ _ _ hC2 ?_
    exact wpAnyQ_lex (C := C2) (md := .any) hsel (l.drop (i + 1)) (i + 1) _ a2 (fun j => by simp [List.getElem?_drop]) (by rw [hdl]; exact hb.2) hq) _ _ _ _ hC H
  rw [htl, hdl, show n + (l.toArray.size - (n + 1) + 1) = l.toArray.size by omega] at this
  exact this
end
end
section
open Go.RowKit

def beg (x : HT) : List Int := List.replicate (x.dl + 2).toNat 0
theorem gi_rep (n i : Nat) : gi (List.replicate n 0) i = 0 := by
  unfold gi
  rw [List.getD_eq_getElem?_getD, List.getElem?_replicate]
  split <;> rfl
theorem Reads.fresh (W : World) (cs : Array Value) (T : TypeId) (f : Nat → Value) (B n : Nat) (hB : W.heap.size = B) (h : ∀ i, i < n → cs[i]? = some (f i)) :
    Reads (W.alloc (.cells cs T)) (some ⟨B, 0, none⟩) n f := by
  subst hB
  refine .inr ⟨_, _, rfl, by simp, fun i hi => ?_⟩
  rw [Nat.zero_add, ← h i hi]
  simp [World.cell?_alloc_new]
end
section
open Go.RowKit

def runR (x : HT) : List Int → List Int → List Int
  | _, [] => []
  | st, f :: zs => nextV x st f :: if inB x (nextV x st f) then runR x (nextR st (nextV x st f)) zs else []

theorem nextR_len {st : List Int} (n : Int) (h : 0 < st.length) : (nextR st n).length = st.length := by simp [nextR]; omega
theorem gi_nextR1 (st : List Int) (n : Int) (i : Nat) (h : i + 1 < st.length) : gi (nextR st n) (i + 1) = gi st i := by
  unfold gi nextR
  rw [List.getD_cons_succ, List.getD_eq_getElem?_getD, List.getD_eq_getElem?_getD, List.getElem?_take, if_pos (by omega)]
theorem gi_out (l : List Int) (i : Nat) (h : l.length ≤ i) : gi l i = 0 := by
  unfold gi; rw [List.getD_eq_getElem?_getD, List.getElem?_eq_none h]; rfl
theorem owns_to {B : Nat} {e : TypeId} {k : Nat} {v : Value} {n : Nat} {xs : List Value} {w w' : World} (h : w.ownsRow B e k v n xs) (hb : Below w.heap.size w w') : w'.ownsRow B e k v n xs :=
  h.kept (row := none) ⟨hb.os, hb.tape, hb.output, hb.size, fun j hj _ => hb.block j hj⟩ (by cases hv : v.ownBlock <;> simp)

/-- What stands at the head of a round of a run: the state, what has been gathered, the memory. -/
structure RunSt (x : HT) (zs : List Int) (a : Option Addr) (n0 : Nat) (w : World) (k : Nat) (v : Value) (sa : Option Addr) (c : Nat) (st pre : List Int) (wr : World) : Prop where
  hk : k ≤ zs.length
  hc : st.length ≤ c
  hst : RSt x st
  rs : Reads wr sa st.length (ints st)
  all : 0 :: runR x (beg x) zs = pre ++ runR x st (zs.drop k)
  own : wr.ownsRow (n0 + 1) 3 1 v pre.length (pre.map fun z => Value.int .i64 z)
  len : pre.length = k + 1
  blk : Blk wr n0 x.cells
  bel : Below n0 w wr
  rz : Reads wr a zs.length (ints zs)

theorem RunSt.step {x : HT} {zs st pre : List Int} {f : Int} {k : Nat} (h : 0 :: runR x (beg x) zs = pre ++ runR x st (zs.drop k)) (hk : k < zs.length) (hf : gi zs k = f) :
    0 :: runR x (beg x) zs = (pre ++ [nextV x st f]) ++ (if inB x (nextV x st f) then runR x (nextR st (nextV x st f)) (zs.drop (k + 1)) else []) := by
  rw [h, gi_drop zs k hk, hf, List.append_assoc]; rfl

theorem Reads.grown {W W' : World} {a : Option Addr} {m : Nat} {f : Nat → Value} {row : Option Nat} (h : Reads W a m f) (hg : W.grownBy W' row) (hne : ∀ p, a = some p → some p.block ≠ row) : Reads W' a m f := by
  rcases h with h | ⟨b, off, rfl, hb, hc⟩
  · exact .inl h
  · refine .inr ⟨b, off, rfl, Nat.lt_of_lt_of_le hb hg.size, fun i hi => ?_⟩
    rw [← hc i hi]
    have := hg.block b hb (hne _ rfl)
    simp only [World.cell?, this]
end
section
open Go.RowKit

/-- A state of four numbers, and the reference's. -/
structure Rel (x : HT) (a st : List Int) : Prop where
  len : (st.length : Int) = x.dl + 2
  eq : ∀ i, i < st.length → gi a i = gi st i

theorem Rel.next {x : HT} {a st : List Int} (h : Rel x a st) (hx : x.ok) (n : Int) : Rel x (nextL x a n) (nextR st n) := by
  have h0 := hx.dl1
  have h1 := h.len
  have h2 := hx.dl2
  have hl := nextR_len (st := st) n (by omega)
  refine ⟨by rw [hl]; exact h1, fun i hi => ?_⟩
  rw [hl] at hi
  rcases i with _ | _ | _ | _ | i
  · rfl
  · rw [gi_nextR1 st n 0 hi, ← h.eq 0 (by omega)]; rfl
  · rw [gi_nextR1 st n 1 hi, ← h.eq 1 (by omega)]
    show kp x 1 (gi a 1) = _
    unfold kp; rw [if_pos (by omega)]
  · rw [gi_nextR1 st n 2 hi, ← h.eq 2 (by omega)]
    show kp x 2 (gi a 2) = _
    unfold kp; rw [if_pos (by omega)]
  · omega
end
end Go.Proofs.Ytfdlhhinomjakaa
