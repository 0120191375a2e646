/-
  The plain law: what package hybrid computes over states of four numbers is what the reference computes over its own.
-/
import Derived.Test.YtjieojkfpoiabaaC4
namespace Go.Proofs.Ytjieojkfpoiabaa
open Go.RowKit

/-- A state of four numbers, and the reference's. -/
structure Rel (x : HT) (a st : List Int) : Prop where
  len : (st.length : Int) = x.dl + 2
  eq : ∀ i, i < st.length → gi a i = gi st i

theorem Rel.cmd {x : HT} {a st : List Int} (h : Rel x a st) (hx : x.ok) : cmdV x a x.dl.toNat = cmdV x st x.dl.toNat := by
  have h0 := hx.dl1
  have h1 := h.len
  unfold cmdV
  rw [h.eq x.dl.toNat (by omega), h.eq (x.dl.toNat + 1) (by omega)]
theorem Rel.nextV {x : HT} {a st : List Int} (h : Rel x a st) (hx : x.ok) (f : Int) : Go.Proofs.Ytjieojkfpoiabaa.nextV x a f = Go.Proofs.Ytjieojkfpoiabaa.nextV x st f := by
  have h0 := hx.dl1
  have h1 := h.len
  unfold Go.Proofs.Ytjieojkfpoiabaa.nextV pushV
  rw [h.cmd hx, h.eq 0 (by omega), h.eq 1 (by omega)]
theorem Rel.next {x : HT} {a st : List Int} (h : Rel x a st) (hx : x.ok) (n : Int) : Rel x (nextL x a n) (nextR st n) := by
  have h0 := hx.dl1
  have h1 := h.len
  have h2 := hx.dl2
  have hl := nextR_len (st := st) n (by omega)
  refine ⟨by rw [hl]; exact h1, fun i hi => ?_⟩
  rw [hl] at hi
  rcases i with _ | _ | _ | _ | i
  · rfl
  · rw [gi_nextR1 st n 0 hi, ← h.eq 0 (by omega)]; rfl
  · rw [gi_nextR1 st n 1 hi, ← h.eq 1 (by omega)]
    show kp x 1 (gi a 1) = _
    unfold kp; rw [if_pos (by omega)]
  · rw [gi_nextR1 st n 2 hi, ← h.eq 2 (by omega)]
    show kp x 2 (gi a 2) = _
    unfold kp; rw [if_pos (by omega)]
  · omega
theorem Rel.beg {x : HT} (hx : x.ok) : Rel x [0, 0, 0, 0] (Go.Proofs.Ytjieojkfpoiabaa.beg x) := by
  have h0 := hx.dl1
  have h2 := hx.dl2
  refine ⟨(beg_st hx).len, fun i hi => ?_⟩
  unfold Go.Proofs.Ytjieojkfpoiabaa.beg
  rw [gi_rep]
  have : i < 4 := by have := (beg_st hx).len; omega
  rcases i with _ | _ | _ | _ | i
  all_goals first | rfl | omega

theorem run_eq (x : HT) (hx : x.ok) : ∀ (zs a st : List Int), Rel x a st → (stepsL x a zs).map (fun s => gi s.2 0) = runR x st zs
  | [], _, _, _ => rfl
  | f :: zs, a, st, h => by
    simp only [stepsL, runR, List.map_cons, h.nextV hx f]
    congr 1
    cases hb : inB x (nextV x st f) with
    | false => rfl
    | true => simpa using run_eq x hx zs _ _ (h.next hx _)
theorem runL_eq (x : HT) (hx : x.ok) (zs : List Int) : runL x zs = 0 :: runR x (beg x) zs := by
  unfold runL; rw [run_eq x hx zs _ _ (Rel.beg hx)]

theorem sumE_cons (f : List Int × List Int → Int) (s : List Int × List Int) (l : List (List Int × List Int)) : sumE f (s :: l) = f s + sumE f l := by simp [sumE]
theorem err_eq (x : HT) (off : Int) (hx : x.ok) : ∀ (zs a st : List Int) (lo hi : Int), Rel x a st →
    errR x off st lo hi zs = (lo + (sumE (stepErr x) (stepsL x a zs) - sumE (stepWide off) (stepsL x a zs)), hi + (sumE (stepErr x) (stepsL x a zs) + sumE (stepWide off) (stepsL x a zs)))
  | [], _, _, lo, hi, _ => by simp [errR, stepsL, sumE]
  | f :: zs, a, st, lo, hi, h => by
    have hl := h.len
    have h0 := hx.dl1
    have e0 : gi a 0 = gi st 0 := h.eq 0 (by omega)
    have e1 : gi a 1 = gi st 1 := h.eq 1 (by omega)
    have es : stepErr x (a, nextL x a (nextV x st f)) = rErr x st (nextV x st f) := by
      show x.s * (cmdV x a x.dl.toNat - gi a 0) * (nextV x st f - gi a 1) = x.s * (cmdV x st x.dl.toNat - gi st 0) * (nextV x st f - gi st 1)
      rw [h.cmd hx, e0, e1]
    have ew : stepWide off (a, nextL x a (nextV x st f)) = rWide off st (nextV x st f) := by
      show off * sizeI (nextV x st f - gi a 1) = off * sizeI (nextV x st f - gi st 1)
      rw [e1]
    simp only [stepsL, errR, h.nextV hx f, sumE_cons, es, ew]
    cases hb : inB x (nextV x st f) with
    | false =>
      simp only [Bool.false_eq_true, if_false, sumE, List.map_nil, List.sum_nil]
      exact Prod.ext (by dsimp only; omega) (by dsimp only; omega)
    | true =>
      simp only [if_true]
      rw [err_eq x off hx zs _ _ _ _ (h.next hx _)]
      exact Prod.ext (by dsimp only; omega) (by dsimp only; omega)

end Go.Proofs.Ytjieojkfpoiabaa
