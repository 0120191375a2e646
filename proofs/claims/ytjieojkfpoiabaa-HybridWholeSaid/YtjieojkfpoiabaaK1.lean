/-
  HybridWhole's plain law: runs without delay, runs of wholes, beginnings of runs, errors of energy.
-/
import Derived.Test.YtjieojkfpoiabaaF2
import Derived.Test.YtjieojkfpoiabaaJ6
namespace Go.Proofs.Ytjieojkfpoiabaa
open Go.RowKit

/-- Without delay. -/
abbrev HT.still (x : HT) : HT := { x with dl := 0 }

theorem testE_of_ok {x : HT} (h : x.ok) : testE x = 0 := by
  have hr : rightB x = true := by
    unfold rightB
    exact decide_eq_true ⟨h.m1, h.m2, h.d1, h.d2, h.c1, h.c2, h.s1, h.s2, h.dl1, h.dl2, h.b1, h.b2, h.lo1, h.lo2, h.hi1, h.hi2⟩
  have := h.lo1; have := h.lo2; have := h.hi1; have := h.hi2; have := h.few
  refine testE_ok hr h.ord ?_
  have e : wrap64 (x.hi - x.lo) = x.hi - x.lo := IntWalk.wrap64_in _ ⟨by omega, by omega⟩
  rw [e]; omega
theorem HT.ok.still {x : HT} (h : x.ok) : x.still.ok :=
  ⟨h.m1, h.m2, h.d1, h.d2, h.c1, h.c2, h.s1, h.s2, Int.le_refl 0, (show (0 : Int) ≤ 2 by decide), h.b1, h.b2, h.lo1, h.lo2, h.hi1, h.hi2, h.ord, h.few⟩
theorem HT.ok.wholeS {x : HT} (h : x.ok) (hl : x.c + x.s ≤ 1000) : x.still.whole.ok := by
  have := h.c1; have := h.s1
  exact ⟨h.m1, h.m2, h.d1, h.d2, show 0 ≤ x.c + x.s by omega, hl, Int.le_refl 0, (show (0 : Int) ≤ 1000 by decide), Int.le_refl 0, (show (0 : Int) ≤ 2 by decide), h.b1, h.b2, h.lo1, h.lo2, h.hi1, h.hi2, h.ord, h.few⟩
theorem runE_of {x : HT} {zs : List Int} (h : x.ok) (hf : forcesE x zs = 0) : runE x zs = 0 := by
  unfold runE; rw [testE_of_ok h, hf]; rfl

/-- Runs of two tests that go alike. -/
theorem stepsL_map_congr (x y : HT) (h : ∀ a f, nextV x a f = nextV y a f) (hb : x.b = y.b) (hd : x.dl = y.dl) : ∀ zs a, (stepsL x a zs).map (fun s => gi s.2 0) = (stepsL y a zs).map (fun s => gi s.2 0)
  | [], _ => rfl
  | f :: zs, a => by
    have e1 : nextL x a (nextV x a f) = nextL y a (nextV y a f) := by rw [h a f]; unfold nextL kp; rw [hd]
    have e2 : inB x (nextV x a f) = inB y (nextV y a f) := by rw [h a f]; unfold inB; rw [hb]
    simp only [stepsL, List.map_cons, e1, e2]
    congr 1
    split
    · exact stepsL_map_congr x y h hb hd zs _
    · rfl
theorem cmdV_still (x : HT) (a : List Int) : cmdV x.still a 0 = gi a 0 := by unfold cmdV; simp
theorem runL_whole (x : HT) (zs : List Int) : runL x.still.whole zs = runL x.still zs := by
  unfold runL
  rw [stepsL_map_congr x.still.whole x.still (fun a f => ?_) rfl rfl zs]
  unfold nextV pushV
  have e1 : cmdV x.still a x.still.dl.toNat = gi a 0 := cmdV_still x a
  rw [e1]
  have e2 : x.still.whole.s * cmdV x.still.whole a x.still.whole.dl.toNat = 0 := Int.zero_mul _
  rw [e2]
  have e3 : (x.c + x.s) * gi a 0 = x.c * gi a 0 + x.s * gi a 0 := Int.add_mul ..
  show 2 * gi a 0 - gi a 1 + (f - x.d * (gi a 0 - gi a 1) - (x.c + x.s) * gi a 0 - 0) / x.m = 2 * gi a 0 - gi a 1 + (f - x.d * (gi a 0 - gi a 1) - x.c * gi a 0 - x.s * gi a 0) / x.m
  congr 2
  omega

/-- What the k-th step of a run is. -/
theorem steps_at (x : HT) : ∀ (zs a : List Int) (k : Nat) (s : List Int × List Int), (stepsL x a zs)[k]? = some s →
    gi s.1 0 = gi (gi a 0 :: (stepsL x a zs).map fun s => gi s.2 0) k ∧ gi s.1 1 = gi (gi a 1 :: gi a 0 :: (stepsL x a zs).map fun s => gi s.2 0) k ∧
    gi s.2 0 = gi ((stepsL x a zs).map fun s => gi s.2 0) k ∧ gi s.2 0 = nextV x s.1 (gi zs k) ∧ k < zs.length ∧ (k + 1 < (stepsL x a zs).length → inB x (gi s.2 0) = true)
  | [], _, k, s, h => by simp [stepsL] at h
  | f :: zs, a, 0, s, h => by
    simp only [stepsL, List.getElem?_cons_zero, Option.some.injEq] at h
    subst h
    refine ⟨rfl, rfl, rfl, rfl, by simp, fun hl => ?_⟩
    simp only [stepsL, List.length_cons] at hl
    cases hb : inB x (nextV x a f) with
    | true => exact hb
    | false => rw [hb] at hl; simp at hl
  | f :: zs, a, k + 1, s, h => by
    simp only [stepsL, List.getElem?_cons_succ] at h
    cases hb : inB x (nextV x a f) with
    | false => rw [hb] at h; simp at h
    | true =>
      rw [hb] at h
      have ih := steps_at x zs _ k s (by simpa using h)
      obtain ⟨h1, h2, h3, h4, h5, h6⟩ := ih
      have e : stepsL x a (f :: zs) = (a, nextL x a (nextV x a f)) :: stepsL x (nextL x a (nextV x a f)) zs := by simp only [stepsL, hb, if_true]
      rw [e]
      refine ⟨h1, h2, h3, h4, by simp only [List.length_cons]; omega, fun hl => h6 (by simp only [List.length_cons] at hl; omega)⟩

/-- The displacement before the one before. -/
def bfV (r : List Int) (k : Nat) : Int := if k = 0 then 0 else gi r (k - 1)
theorem bfV_eq (vs : List Int) (k : Nat) : gi (0 :: 0 :: vs) k = bfV (0 :: vs) k := by
  cases k with
  | zero => rfl
  | succ k => unfold bfV; rw [if_neg (by omega)]; rfl

theorem runL_at {x : HT} (hx : x.ok) {zs : List Int} (hz : ∀ k, k < zs.length → -1000 ≤ gi zs k ∧ gi zs k ≤ 1000) {k : Nat} (hk : k + 1 < (runL x zs).length) :
    ∃ s, (stepsL x [0, 0, 0, 0] zs)[k]? = some s ∧ StepOk s ∧ gi s.1 0 = gi (runL x zs) k ∧ gi s.1 1 = bfV (runL x zs) k ∧ gi s.2 0 = gi (runL x zs) (k + 1) ∧ gi s.2 0 = nextV x s.1 (gi zs k) ∧ k < zs.length ∧
      (k + 2 < (runL x zs).length → inB x (gi s.2 0) = true) := by
  have hl : (runL x zs).length = (stepsL x [0, 0, 0, 0] zs).length + 1 := by simp [runL]
  have hk2 : k < (stepsL x [0, 0, 0, 0] zs).length := by omega
  refine ⟨(stepsL x [0, 0, 0, 0] zs)[k], List.getElem?_eq_getElem hk2, ?_⟩
  obtain ⟨h1, h2, h3, h4, h5, h6⟩ := steps_at x zs [0, 0, 0, 0] k _ (List.getElem?_eq_getElem hk2)
  have hok := stepsL_ok x hx zs 0 0 0 0 (by constructor <;> decide) hz _ (List.getElem_mem hk2)
  refine ⟨hok, h1, ?_, h3, h4, h5, fun h => h6 (by omega)⟩
  rw [h2]
  exact bfV_eq _ k

/-- What the loop over a run without delay wants of each displacement. -/
structure WholeK (x : HT) (zs r : List Int) (k : Nat) : Prop where
  v1 : -3 ≤ gi r k ∧ gi r k ≤ 3
  bf : -3 ≤ bfV r k ∧ bfV r k ≤ 3
  v2 : -200000 ≤ gi r (k + 1) ∧ gi r (k + 1) ≤ 200000
  rest : 0 ≤ gi zs k - x.d * (gi r k - bfV r k) - (x.c + x.s) * gi r k - x.m * (gi r (k + 1) - 2 * gi r k + bfV r k) ∧
    gi zs k - x.d * (gi r k - bfV r k) - (x.c + x.s) * gi r k - x.m * (gi r (k + 1) - 2 * gi r k + bfV r k) < x.m
  inb : k + 2 < r.length → -x.b ≤ gi r (k + 1) ∧ gi r (k + 1) ≤ x.b
  few : k < zs.length
theorem wholeK_of {x : HT} (hx : x.ok) {zs : List Int} (hz : ∀ k, k < zs.length → -1000 ≤ gi zs k ∧ gi zs k ≤ 1000) {k : Nat} (hk : k + 1 < (runL x.still zs).length) : WholeK x zs (runL x.still zs) k := by
  obtain ⟨s, -, hok, h1, h2, h3, h4, h5, h6⟩ := runL_at hx.still hz hk
  have m1 := hx.m1
  have hn : gi (runL x.still zs) (k + 1) = 2 * gi (runL x.still zs) k - bfV (runL x.still zs) k + (gi zs k - x.d * (gi (runL x.still zs) k - bfV (runL x.still zs) k) - x.c * gi (runL x.still zs) k - x.s * gi (runL x.still zs) k) / x.m := by
    rw [← h3, h4]
    unfold nextV pushV
    have e1 : cmdV x.still s.1 x.still.dl.toNat = gi s.1 0 := cmdV_still x s.1
    rw [e1, h1, h2]
  have l0 := hok.st.l0; have u0 := hok.st.u0; have l1 := hok.st.l1; have u1 := hok.st.u1; have hlo := hok.lo; have hhi := hok.hi
  rw [h1] at l0 u0
  rw [h2] at l1 u1
  rw [h3] at hlo hhi
  refine ⟨⟨l0, u0⟩, ⟨l1, u1⟩, ⟨hlo, hhi⟩, ?_, fun h => ?_, h5⟩
  · obtain ⟨v1, e1⟩ : ∃ v, gi (runL x.still zs) k = v := ⟨_, rfl⟩
    obtain ⟨bf, e2⟩ : ∃ v, bfV (runL x.still zs) k = v := ⟨_, rfl⟩
    obtain ⟨v2, e3⟩ : ∃ v, gi (runL x.still zs) (k + 1) = v := ⟨_, rfl⟩
    rw [e1, e2, e3] at hn ⊢
    have e4 : (x.c + x.s) * v1 = x.c * v1 + x.s * v1 := Int.add_mul ..
    obtain ⟨p, hp⟩ : ∃ p, gi zs k - x.d * (v1 - bf) - x.c * v1 - x.s * v1 = p := ⟨_, rfl⟩
    rw [hp] at hn
    have e5 : x.m * (v2 - 2 * v1 + bf) = x.m * (p / x.m) := by congr 1; omega
    have h7 := Int.mul_ediv_add_emod p x.m
    have h8 := Int.emod_nonneg p (show x.m ≠ 0 by omega)
    have h9 := Int.emod_lt_of_pos p (show 0 < x.m by omega)
    rw [e5]
    omega
  · have := h6 h
    unfold inB at this
    simp at this
    rw [h3] at this
    exact this

/-- The sum of all ways of a run. -/
def waysV (r : List Int) : Nat → Int
  | 0 => 0
  | k + 1 => waysV r k + sizeI (gi r (k + 1) - bfV r k)
theorem sumE_ways {x : HT} (hx : x.ok) {zs : List Int} (hz : ∀ k, k < zs.length → -1000 ≤ gi zs k ∧ gi zs k ≤ 1000) (off : Int) : ∀ k, k + 1 ≤ (runL x zs).length → sumE (stepWide off) ((stepsL x [0, 0, 0, 0] zs).take k) = off * waysV (runL x zs) k
  | 0, _ => by simp [sumE, waysV]
  | k + 1, hk => by
    obtain ⟨s, hs, -, h1, h2, h3, -⟩ := runL_at hx hz (k := k) (by omega)
    have ih := sumE_ways hx hz off k (by omega)
    rw [List.take_add_one, hs, Option.toList_some, sumE_snoc, ih, waysV, Int.mul_add]
    unfold stepWide stepWay
    rw [h2, h3]
theorem sumE_ways_all {x : HT} (hx : x.ok) {zs : List Int} (hz : ∀ k, k < zs.length → -1000 ≤ gi zs k ∧ gi zs k ≤ 1000) (off : Int) : sumE (stepWide off) (stepsL x [0, 0, 0, 0] zs) = off * waysV (runL x zs) ((runL x zs).length - 1) := by
  have hl : (runL x zs).length = (stepsL x [0, 0, 0, 0] zs).length + 1 := by simp [runL]
  have h := sumE_ways hx hz off (stepsL x [0, 0, 0, 0] zs).length (by omega)
  rw [List.take_length] at h
  rw [h, hl]; rfl
structure WayK (r : List Int) (k : Nat) : Prop where
  v2 : -200000 ≤ gi r (k + 1) ∧ gi r (k + 1) ≤ 200000
  bf : -3 ≤ bfV r k ∧ bfV r k ≤ 3
theorem wayK_of {x : HT} (hx : x.ok) {zs : List Int} (hz : ∀ k, k < zs.length → -1000 ≤ gi zs k ∧ gi zs k ≤ 1000) {k : Nat} (hk : k + 1 < (runL x zs).length) : WayK (runL x zs) k := by
  obtain ⟨s, -, hok, h1, h2, h3, -⟩ := runL_at hx hz hk
  have l1 := hok.st.l1; have u1 := hok.st.u1; have hlo := hok.lo; have hhi := hok.hi
  rw [h2] at l1 u1
  rw [h3] at hlo hhi
  exact ⟨⟨hlo, hhi⟩, ⟨l1, u1⟩⟩
theorem waysV_bd {r : List Int} (h : ∀ k, k + 1 < r.length → WayK r k) : ∀ k, k + 1 ≤ r.length → 0 ≤ waysV r k ∧ waysV r k ≤ 200003 * k
  | 0, _ => by simp [waysV]
  | k + 1, hk => by
    have ih := waysV_bd h k (by omega)
    have h1 := h k (by omega)
    obtain ⟨⟨a, b⟩, c, d⟩ := h1
    have h2 := sizeI_bd (n := gi r (k + 1) - bfV r k) (B := 200003) (by omega) (by omega)
    unfold waysV
    omega

theorem stepErr_still (x : HT) (s : List Int × List Int) : stepErr x.still s = 0 := by
  unfold stepErr
  have e1 : cmdV x.still s.1 x.still.dl.toNat = gi s.1 0 := cmdV_still x s.1
  rw [e1, Int.sub_self, Int.mul_zero, Int.zero_mul]
theorem sumE_zero {f : List Int × List Int → Int} (h : ∀ s, f s = 0) : ∀ l, sumE f l = 0
  | [] => rfl
  | s :: l => by rw [sumE_cons, h, sumE_zero h l]; rfl
theorem stepWide_zero (s : List Int × List Int) : stepWide 0 s = 0 := Int.zero_mul _

/-- A run of the first forces is the beginning of the run. -/
theorem stepsL_take (x : HT) : ∀ (zs a : List Int) (n : Nat), stepsL x a (zs.take n) = (stepsL x a zs).take n
  | [], a, n => by simp [stepsL]
  | f :: zs, a, 0 => by simp [stepsL]
  | f :: zs, a, n + 1 => by
    simp only [List.take_succ_cons, stepsL]
    congr 1
    split
    · exact stepsL_take x zs _ n
    · simp
theorem runL_take (x : HT) (zs : List Int) (n : Nat) : runL x (zs.take n) = (runL x zs).take (n + 1) := by
  unfold runL
  rw [stepsL_take, List.take_succ_cons, List.map_take]
theorem take_own {l : List Int} (n : Nat) : l.take n = l.take (l.take n).length := by
  rw [List.length_take]
  by_cases h : n ≤ l.length
  · rw [Nat.min_eq_left h]
  · rw [Nat.min_eq_right (by omega), List.take_length, List.take_of_length_le (by omega)]
theorem eachR_all_zero {err : Nat → Int} : ∀ m k, (∀ i, k ≤ i → i < k + m → err i = 0) → (eachR err k m).2 = 0
  | 0, _, _ => rfl
  | m + 1, k, h => by
    unfold eachR
    rw [if_pos (h k (Nat.le_refl _) (by omega))]
    exact eachR_all_zero m (k + 1) (fun i h1 h2 => h i (by omega) (by omega))
theorem forcesE_take {x : HT} {zs : List Int} (h : forcesE x zs = 0) (n : Nat) : forcesE x (zs.take n) = 0 := by
  obtain ⟨h1, h2⟩ := forcesE_zero h
  have hl : (zs.take n).length ≤ zs.length := by rw [List.length_take]; omega
  rw [forcesE_few (by omega)]
  refine eachR_all_zero _ _ (fun k _ hk => ?_)
  have hk' : k < (zs.take n).length := by omega
  have hb := h2 k (by omega)
  have e : gi (zs.take n) k = gi zs k := by rw [gi_lt hk', gi_lt (by omega), List.getElem_take]
  unfold forceE
  rw [e, decide_eq_true hb.1, decide_eq_true hb.2]
  rfl

theorem Reads.take {W : World} {a : Option Addr} {l : List Int} (h : Reads W a l.length (ints l)) (n : Nat) : Reads W a (l.take n).length (ints (l.take n)) := by
  have hl : (l.take n).length ≤ l.length := by rw [List.length_take]; omega
  rcases h with h | ⟨b, off, ha, hlt, hc⟩
  · exact .inl (by omega)
  · refine .inr ⟨b, off, ha, hlt, fun i hi => ?_⟩
    rw [hc i (by omega)]
    unfold ints
    rw [gi_lt hi, gi_lt (by omega), List.getElem_take]

end Go.Proofs.Ytjieojkfpoiabaa
