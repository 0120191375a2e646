/-
  Texts of this claim, in their build order: Lib5 A9.
-/
import Derived.Test.YtfdlhhinomjakaaHel7
import Derived.Test.YtfdlhhinomjakaaHel8

namespace Go.Proofs.Ytfdlhhinomjakaa
section
open Go.RowKit

section
variable {P : Program} {ops : Array Oper}

theorem Oper.uponIn_of_upon {l n : Nat} {o : Oper} {a : Act} {K : Act → World → Prop} {Q : Exit → Act → World → Prop} : ∀ {r : Result Next}, o.upon P a K Q r → o.uponIn (Fence.wide.inRound l) n P a K Q r
  | .ok (.value _) _, h => h
  | .ok .skip _, h => h
  | .ok (.defer _) _, h => h
  | .ok (.enter f args) w, h => ⟨fun hd => by simp [Fence.wide, Fence.inRound] at hd, CallsIn.inRound l ((callsIn_wide (n := n - 1)).2 (show Calls P f args w _ from h))⟩
  | .ok (.row row args) w, h => ⟨fun hd => by simp [Fence.wide, Fence.inRound] at hd, fun c cs _ => by
      obtain ⟨v, w', hR, hs⟩ := h c cs
      exact ⟨v, w', hR, stepsIn_wide.2 hs⟩⟩
  | .halt (.panic _) _, h => h

theorem wpOpIn_of_wpOp {l n i : Nat} {Q : Exit → Act → World → Prop} {K : Act → World → Prop} {a : Act} {w : World} (hnd : ∀ (j : Nat) (o : Oper) c, ops[j]? = some o → o.op ≠ .defer c) (hno : ¬ LetsOut Q)
    (h : wpOp P ops Q i K a w) : wpOpIn (Fence.wide.inRound l) n P ops Q i K a w := by
  unfold wpOp at h
  unfold wpOpIn
  split
  · rename_i ho; simp only [ho] at h; exact h
  · rename_i o ho
    simp only [ho] at h
    split
    · rename_i hw
      simp only [hw, if_true] at h
      rcases h with h | ⟨-, h⟩
      · unfold Oper.wp at h
        refine ⟨fun _ _ => trivial, ?_⟩
        rw [Oper.semAt_plain _ _ _ (fun c => hnd i o c ho)]
        exact Oper.uponIn_of_upon h
      · exact absurd h hno
    · rename_i hw
      simp only [hw] at h
      exact ⟨fun _ _ => trivial, h⟩

theorem wpAnyIn_of_wpAny {l n : Nat} {md : Region.Mode} {Q : Exit → Act → World → Prop} (hnd : ∀ (j : Nat) (o : Oper) c, ops[j]? = some o → o.op ≠ .defer c) (hno : ¬ LetsOut Q) :
    ∀ (fuel : Nat) (listed : Array Bool) (a : Act) (w : World), wpAny P md ops Q fuel listed a w → wpAnyIn (Fence.wide.inRound l) n P md ops Q fuel listed a w
  | 0, _, _, _, h => h
  | fuel + 1, _, _, _, h => ⟨h.1, fun i hi => wpOpIn_of_wpOp hnd hno (wpOp_mono (fun a' w' h' => wpAnyIn_of_wpAny hnd hno fuel _ a' w' h') (h.2 i hi))⟩

/-- No operation is a defer statement. -/
def noDeferB (ops : List Oper) : Bool := ops.all fun o => match o.op with | .defer _ => false | _ => true
theorem noDefer_spec {l : List Oper} (h : noDeferB l = true) : ∀ (j : Nat) (o : Oper) c, l.toArray[j]? = some o → o.op ≠ .defer c := by
  intro j o c hj he
  have hm : o ∈ l := by
    have := List.mem_of_getElem? (show l[j]? = some o by simpa using hj)
    exact this
  have := List.all_eq_true.1 h o hm
  rw [he] at this
  cases this

theorem wpAny_quiet_tail {Q : Exit → Act → World → Prop} {a : Act} {w : World} {l : List Oper} (n : Nat) (C : World → Prop) (hB : Region.lexTailB .any l.toArray n = true)
    (hC : C { w with drawn := w.drawn + 1 })
    (h : wpQuiet P l.toArray C (fun a' => ∀ w', C w' → wpList P l.toArray Q (l.drop n) a' w') (l.take n) a) : wpAny P .any l.toArray Q l.toArray.size (Array.replicate l.toArray.size false) a { w with drawn := w.drawn + 1 } := by
  simp only [Region.lexTailB, Bool.and_eq_true, decide_eq_true_eq] at hB
  obtain ⟨⟨⟨⟨hsel, hn⟩, hs⟩, hc⟩, hlex⟩ := hB
  have hn' : n < l.length := by simpa using hn
  have htl : (l.take n).length = n := by simp; omega
  have hdl : (l.drop n).length = l.toArray.size - n := by simp
  have inv0 : HeadInv .any l.toArray n (Array.replicate l.toArray.size false) :=
    ⟨by simp, fun j oj _ hl => (by rw [getD_replicate_false] at hl; cases hl), fun t _ ht => getD_in (by simpa using ht) (getD_replicate_false _ _)⟩
  have H := wpAnyQL_lex (md := .any) (g := l.toArray.size - n) hsel hs hc hn (l.take n) 0 _ a (fun j hj => by
    have hj' : j < n := by rw [htl] at hj; exact hj
    simp [hj']) (by simpa using htl) inv0 (by rw [htl]; exact hlex) h
  have := wpAny_of_qhead (C := C) (Q' := Q) (g := l.toArray.size - n) (fun listed a' w' hw' hL => by
    have := wpAny_of_seq (md := .any) (Q' := Q) (l.drop n) n listed a' w' (fun j => by simp [List.getElem?_drop]) (by rw [hdl]; exact hL.1) (hL.2 w' hw')
    rwa [hdl] at this) _ _ _ _ hC H
  rw [htl, show n + (l.toArray.size - n) = l.toArray.size by omega] at this
  exact this

/-- In a round: a region that draws its order, with a forced tail. -/
theorem wpIn_region_quiet_tail {id d r : Nat} {Q : Exit → Act → World → Prop} {a : Act} {w : World} {l : List Oper} (n : Nat) (C : World → Prop) (hm : P.follows .mixedOrders = true) (hB : Region.lexTailB .any l.toArray n = true)
    (hnd : noDeferB l = true) (hno : ¬ LetsOut Q) (hC : C { w with drawn := w.drawn + 1 })
    (h : wpQuiet P l.toArray C (fun a' => ∀ w', C w' → wpList P l.toArray Q (l.drop n) a' w') (l.take n) a) : (Code.region id l.toArray true).wpIn (Fence.wide.inRound r) d P Q a w :=
  wpIn_region_any hm (wpAnyIn_of_wpAny (noDefer_spec hnd) hno _ _ _ _ (wpAny_quiet_tail n C hB hC h))

/-- In a round: a region that draws its order, all of whose operations keep the class. -/
theorem wpIn_region_quiet_all {id d r : Nat} {Q : Exit → Act → World → Prop} {a : Act} {w : World} {l : List Oper} (C : World → Prop) (hm : P.follows .mixedOrders = true) (hB : Region.lexB .any l.toArray = true)
    (hnd : noDeferB l = true) (hno : ¬ LetsOut Q) (hC : C { w with drawn := w.drawn + 1 })
    (h : wpQuiet P l.toArray C (fun a' => ∀ w', C w' → Q .normal a' w') l a) : (Code.region id l.toArray true).wpIn (Fence.wide.inRound r) d P Q a w := by
  simp only [Region.lexB, Bool.and_eq_true] at hB
  refine wpIn_region_any hm (wpAnyIn_of_wpAny (noDefer_spec hnd) hno _ _ _ _ ?_)
  refine wpAny_of_quiet (C := C) (Q := fun a' => ∀ w', C w' → Q .normal a' w') (fun _ w' hw' h => h w' hw') _ _ _ _ hC ?_
  have := wpAnyQ_lex (C := C) (md := .any) hB.1 l 0 (Array.replicate l.toArray.size false) a (by simp) (by simpa using hB.2) h
  simpa using this
end
end
section
open Go.RowKit
attribute [local go_sem] Oper.semAt_some

def offE (off : Int) : Int := unl (decide (0 ≤ off) && decide (off ≤ 1000)) 2
def errE (x : HT) (zs : List Int) (off : Int) : Int := firstE [testE x, forcesE x zs, offE off]
def stepWay (s : List Int × List Int) : Int := gi s.2 0 - gi s.1 1
def stepErr (x : HT) (s : List Int × List Int) : Int := x.s * (cmdV x s.1 x.dl.toNat - gi s.1 0) * stepWay s
def stepWide (off : Int) (s : List Int × List Int) : Int := off * sizeI (stepWay s)
def sumE (f : List Int × List Int → Int) (l : List (List Int × List Int)) : Int := (l.map f).sum

theorem Blk.agree {B : Nat} {M : Nat → Prop} {W1 W2 : World} {b : Nat} {cs : Array Value} (h : Blk W1 b cs) (hag : Agree B M W1 W2) (hb : M b ∨ b < B) : Blk W2 b cs := by
  have hh : W2.heap[b]? = W1.heap[b]? := hb.elim (hag.same b h.1) (hag.low b)
  exact ⟨Nat.lt_of_lt_of_le h.1 hag.size, fun o => (World.cell?_of_block (w := W1) (a := ⟨b, o, none⟩) hh).trans (h.2.1 o), fun o => (World.frozen?_of_block (w := W1) (a := ⟨b, o, none⟩) hh).trans (h.2.2 o)⟩

theorem errE_zero {x : HT} {zs : List Int} {off : Int} (h : errE x zs off = 0) : x.ok ∧ zs.length ≤ 60 ∧ (∀ k, k < zs.length → -1000 ≤ gi zs k ∧ gi zs k ≤ 1000) ∧ 0 ≤ off ∧ off ≤ 1000 := by
  have h1 := firstE_zero (show firstE [_, _, _] = 0 from h)
  have h2 := testE_zero (h1 _ (List.mem_cons_self ..))
  have h3 := forcesE_zero (h1 _ (List.mem_cons_of_mem _ (List.mem_cons_self ..)))
  have h4 := h1 (offE off) (List.mem_cons_of_mem _ (List.mem_cons_of_mem _ (List.mem_cons_self ..)))
  have h5 : 0 ≤ off ∧ off ≤ 1000 := by
    unfold offE unl at h4
    split at h4
    · rename_i hb; simpa using hb
    · omega
  exact ⟨h2, h3.1, fun k hk => by have := h3.2 k hk; have := h2.lo1; have := h2.hi2; omega, h5⟩

/-- What is known of each step of a run: a state within the bound, and a number that is not too great. -/
structure StepOk (s : List Int × List Int) : Prop where
  len : s.1.length = 4
  st : St (gi s.1 0) (gi s.1 1) (gi s.1 2) (gi s.1 3)
  lo : -200000 ≤ gi s.2 0
  hi : gi s.2 0 ≤ 200000
theorem nextV_bd (x : HT) (a0 a1 a2 a3 f : Int) (hx : x.ok) (hs : St a0 a1 a2 a3) (hf1 : -1000 ≤ f) (hf2 : f ≤ 1000) : -200000 ≤ nextV x [a0, a1, a2, a3] f ∧ nextV x [a0, a1, a2, a3] f ≤ 200000 := by
  have hc := cmdV_bd x a0 a1 a2 a3 hx hs
  obtain ⟨l0, u0, l1, u1, l2, u2, l3, u3⟩ := hs
  have h1 := mul_bd (a := x.d) (b := a0 - a1) (A := 1000) (B := 6) (by have := hx.d1; omega) hx.d2 (by omega) (by omega)
  have h2 := mul_bd (a := x.c) (b := a0) (A := 1000) (B := 3) (by have := hx.c1; omega) hx.c2 (by omega) (by omega)
  have h3 := mul_bd (a := x.s) (b := cmdV x [a0, a1, a2, a3] x.dl.toNat) (A := 1000) (B := 15) (by have := hx.s1; omega) hx.s2 (by omega) (by omega)
  have h4 : -100000 ≤ pushV x [a0, a1, a2, a3] f ∧ pushV x [a0, a1, a2, a3] f ≤ 100000 := by simp only [pushV, gi, List.getD_cons_zero, List.getD_cons_succ]; omega
  have h5 := ediv_bd (pushV x [a0, a1, a2, a3] f) x.m 100000 (by have := hx.m1; omega) (by omega) h4.1 h4.2
  simp only [nextV, gi, List.getD_cons_zero, List.getD_cons_succ] at *
  omega
theorem stepsL_ok (x : HT) (hx : x.ok) : ∀ (zs : List Int) (a0 a1 a2 a3 : Int), St a0 a1 a2 a3 → (∀ k, k < zs.length → -1000 ≤ gi zs k ∧ gi zs k ≤ 1000) → ∀ s ∈ stepsL x [a0, a1, a2, a3] zs, StepOk s
  | [], _, _, _, _, _, _, s, hs => by cases hs
  | f :: zs, a0, a1, a2, a3, hst, hz, s, hs => by
    have h0 := hz 0 (by simp)
    have hb := nextV_bd x a0 a1 a2 a3 f hx hst h0.1 h0.2
    simp only [stepsL] at hs
    rcases List.mem_cons.1 hs with rfl | hs
    · exact ⟨rfl, hst, hb.1, hb.2⟩
    · split at hs
      · rename_i hin
        exact stepsL_ok x hx zs _ _ _ _ (St_next hx hst hin) (fun k hk => hz (k + 1) (by simpa using hk)) s hs
      · cases hs
theorem sum_bd {f : List Int × List Int → Int} {B : Int} : ∀ (l : List (List Int × List Int)), (∀ s ∈ l, -B ≤ f s ∧ f s ≤ B) → -(B * l.length) ≤ sumE f l ∧ sumE f l ≤ B * l.length
  | [], _ => by simp [sumE]
  | s :: l, h => by
    have h1 := sum_bd l (fun s hs => h s (List.mem_cons_of_mem _ hs))
    have h2 := h s (List.mem_cons_self ..)
    unfold sumE at *
    simp only [List.map_cons, List.sum_cons, List.length_cons, Int.natCast_add, Int.mul_add]
    omega
theorem sumE_snoc (f : List Int × List Int → Int) (l : List (List Int × List Int)) (s : List Int × List Int) : sumE f (l ++ [s]) = sumE f l + f s := by simp [sumE]
theorem sizeI_bd {n B : Int} (h1 : -B ≤ n) (h2 : n ≤ B) : 0 ≤ sizeI n ∧ sizeI n ≤ B := by unfold sizeI; omega
theorem four (l : List Int) (h : l.length = 4) : l = [gi l 0, gi l 1, gi l 2, gi l 3] := by
  match l, h with
  | [a, b, c, d], _ => rfl
end
end Go.Proofs.Ytfdlhhinomjakaa
