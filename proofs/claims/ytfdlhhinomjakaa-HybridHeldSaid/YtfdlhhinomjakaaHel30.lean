/-
  Texts of this claim, in their build order: BS16 BQ1.
-/
import Derived.Test.YtfdlhhinomjakaaHel29
import Derived.Test.YtfdlhhinomjakaaHel27
import Derived.Test.YtfdlhhinomjakaaHel0

namespace Go.Proofs.Ytfdlhhinomjakaa
section
set_option maxHeartbeats 400000
open Go.RowKit

theorem stateOf_0 (a : Option Addr) (cap : Nat) (w : World) :
    Calls Try.prog 39 #[.slice a 0 cap] w fun e w' => e = .returned (.agg #[.int .i64 0, .int .i64 0, .int .i64 0, .int .i64 0]) ∧ Below w.heap.size w w' := by
  go_enter Try.func39, Try.ntmps39
  go_upto_region 2 with (fail)
  obtain ⟨w1, hw1⟩ : ∃ w1, (w.alloc (.cells #[.int .i64 0, .int .i64 0, .int .i64 0, .int .i64 0] 72)).alloc (.cells #[.int .i64 0, .int .i64 0, .int .i64 0, .int .i64 0] 72) = w1 := ⟨_, rfl⟩
  rw [hw1]
  have HB : Hid (Below w.heap.size w w1) := by subst hw1; exact zH (bAlloc (bAlloc (bSelf w) _) _)
  have K0 : Hid (Blk w1 w.heap.size #[.int .i64 0, .int .i64 0, .int .i64 0, .int .i64 0]) := by subst hw1; exact zH ((Blk.new w _ _).alloc _)
  have K1 : Hid (Blk w1 (w.heap.size + 1) #[.int .i64 0, .int .i64 0, .int .i64 0, .int .i64 0]) := by subst hw1; exact zH (Blk.newAt _ _ _ (by simp))
  clear hw1
  have hcp := fun ty => run_copy_none (P := Try.prog) w1 26 26 ty 3 (some ⟨w.heap.size + 1, 0, none⟩) a 4 4 0 cap (by kernel_rfl) (by kernel_rfl) rfl
  go_upto_region 3 with (fail)
  clear hcp
  have K2 := K1
  have K3 := K0
  have HB2 := HB
  clear K0 K1 HB
  obtain ⟨h2, k2, f2⟩ := K2.out
  obtain ⟨h3, k3, f3⟩ := K3.out
  go_wp2_with fail
  clear k2 f2 k3 f3
  have F := ((((K3.out.set 0 (.int .i64 0)).set 1 (.int .i64 0)).set 2 (.int .i64 0)).set 3 (.int .i64 0)).2.1
  have F0 := F 0; have F1 := F 1; have F2 := F 2; have F3 := F 3
  clear F
  refine bodyPost_ret (v := .agg #[.int .i64 0, .int .i64 0, .int .i64 0, .int .i64 0]) ?_ rfl ⟨rfl, ?_⟩
  · simp [results, Try.results39, go_sem, F0, F1, F2, F3]
  · exact ((((HB2.out.setCell (p := ⟨w.heap.size, 0, none⟩) (Nat.le_refl _) _).setCell (p := ⟨w.heap.size, 1, none⟩) (Nat.le_refl _) _).setCell (p := ⟨w.heap.size, 2, none⟩) (Nat.le_refl _) _).setCell (p := ⟨w.heap.size, 3, none⟩) (Nat.le_refl _) _)

theorem stateOf_1 (z0 : Int) (a : Option Addr) (cap : Nat) (w : World) (hr : Reads w a 1 (ints [z0])) :
    Calls Try.prog 39 #[.slice a 1 cap] w fun e w' => e = .returned (.agg #[.int .i64 z0, .int .i64 0, .int .i64 0, .int .i64 0]) ∧ Below w.heap.size w w' := by
  obtain ⟨b, off, rfl, hb, hc⟩ := hr.at (k := 0) (by omega)
  go_enter Try.func39, Try.ntmps39
  go_upto_region 2 with (fail)
  obtain ⟨w1, hw1⟩ : ∃ w1, (w.alloc (.cells #[.int .i64 0, .int .i64 0, .int .i64 0, .int .i64 0] 72)).alloc (.cells #[.int .i64 0, .int .i64 0, .int .i64 0, .int .i64 0] 72) = w1 := ⟨_, rfl⟩
  rw [hw1]
  have HB : Hid (Below w.heap.size w w1) := by subst hw1; exact zH (bAlloc (bAlloc (bSelf w) _) _)
  have K0 : Hid (Blk w1 w.heap.size #[.int .i64 0, .int .i64 0, .int .i64 0, .int .i64 0]) := by subst hw1; exact zH ((Blk.new w _ _).alloc _)
  have K1 : Hid (Blk w1 (w.heap.size + 1) #[.int .i64 0, .int .i64 0, .int .i64 0, .int .i64 0]) := by subst hw1; exact zH (Blk.newAt _ _ _ (by simp))
  have hc1 : Hid (∀ j, j < 1 → w1.cell? ⟨b, off + j, none⟩ = some (ints [z0] j)) := zH (fun j hj => by rw [← hc j hj]; exact HB.out.cell (p := ⟨b, off + j, none⟩) hb)
  clear hw1 hc
  have hcp := fun ty => run_copy_cells (P := Try.prog) w1 26 26 ty 3 (w.heap.size + 1) 0 4 4 ⟨b, off, none⟩ 1 cap [.int .i64 z0] (by kernel_rfl) (by kernel_rfl) (by rfl)
    (fun j v hj => by
      have hjk : j < 1 := (List.getElem?_eq_some_iff.1 hj).1
      have e : (⟨b, off, none⟩ : Addr).add j = ⟨b, off + j, none⟩ := by unfold Addr.add; split <;> simp_all
      rw [e, hc1.out j hjk, ← hj]
      match j, hjk with
      | 0, _ => rfl)
    (fun j hj => by
      rw [K1.out.2.1 (0 + j)]
      match j, (show j < 1 from hj) with
      | 0, _ => rfl)
    (fun j _ => K1.out.2.2 _)
    (fun v hv => by simp at hv; rcases hv with rfl <;> rfl)
  go_upto_region 3 with (fail)
  clear hcp
  obtain ⟨w2, hw2⟩ : ∃ w2, w1.setCells (w.heap.size + 1) 0 [.int .i64 z0] = w2 := ⟨_, rfl⟩
  rw [hw2]
  have K2 : Hid (Blk w2 (w.heap.size + 1) #[.int .i64 z0, .int .i64 0, .int .i64 0, .int .i64 0]) := by subst hw2; exact zH ((K1.out.set 0 (.int .i64 z0)))
  have K3 : Hid (Blk w2 w.heap.size #[.int .i64 0, .int .i64 0, .int .i64 0, .int .i64 0]) := by subst hw2; exact zH ((K0.out.other (p := ⟨w.heap.size + 1, 0, none⟩) (by dsimp only; omega) (.int .i64 z0)))
  have HB2 : Hid (Below w.heap.size w w2) := by subst hw2; exact zH ((HB.out.setCell (p := ⟨w.heap.size + 1, 0, none⟩) (by dsimp only; omega) (.int .i64 z0)))
  clear hw2 K0 K1 HB
  obtain ⟨h2, k2, f2⟩ := K2.out
  obtain ⟨h3, k3, f3⟩ := K3.out
  go_wp2_with fail
  clear k2 f2 k3 f3
  have F := ((((K3.out.set 0 (.int .i64 z0)).set 1 (.int .i64 0)).set 2 (.int .i64 0)).set 3 (.int .i64 0)).2.1
  have F0 := F 0; have F1 := F 1; have F2 := F 2; have F3 := F 3
  clear F
  refine bodyPost_ret (v := .agg #[.int .i64 z0, .int .i64 0, .int .i64 0, .int .i64 0]) ?_ rfl ⟨rfl, ?_⟩
  · simp [results, Try.results39, go_sem, F0, F1, F2, F3]
  · exact ((((HB2.out.setCell (p := ⟨w.heap.size, 0, none⟩) (Nat.le_refl _) _).setCell (p := ⟨w.heap.size, 1, none⟩) (Nat.le_refl _) _).setCell (p := ⟨w.heap.size, 2, none⟩) (Nat.le_refl _) _).setCell (p := ⟨w.heap.size, 3, none⟩) (Nat.le_refl _) _)

theorem stateOf_ge (z0 z1 z2 z3 : Int) (zr : List Int) (n : Nat) (a : Option Addr) (cap : Nat) (w : World) (hn : 4 ≤ n) (hr : Reads w a n (ints (z0 :: z1 :: z2 :: z3 :: zr))) :
    Calls Try.prog 39 #[.slice a n cap] w fun e w' => e = .returned (.agg #[.int .i64 z0, .int .i64 z1, .int .i64 z2, .int .i64 z3]) ∧ Below w.heap.size w w' := by
  obtain ⟨b, off, rfl, hb, hc⟩ := hr.at (k := 0) (by omega)
  go_enter Try.func39, Try.ntmps39
  go_upto_region 2 with (fail)
  obtain ⟨w1, hw1⟩ : ∃ w1, (w.alloc (.cells #[.int .i64 0, .int .i64 0, .int .i64 0, .int .i64 0] 72)).alloc (.cells #[.int .i64 0, .int .i64 0, .int .i64 0, .int .i64 0] 72) = w1 := ⟨_, rfl⟩
  rw [hw1]
  have HB : Hid (Below w.heap.size w w1) := by subst hw1; exact zH (bAlloc (bAlloc (bSelf w) _) _)
  have K0 : Hid (Blk w1 w.heap.size #[.int .i64 0, .int .i64 0, .int .i64 0, .int .i64 0]) := by subst hw1; exact zH ((Blk.new w _ _).alloc _)
  have K1 : Hid (Blk w1 (w.heap.size + 1) #[.int .i64 0, .int .i64 0, .int .i64 0, .int .i64 0]) := by subst hw1; exact zH (Blk.newAt _ _ _ (by simp))
  have hc1 : Hid (∀ j, j < 4 → w1.cell? ⟨b, off + j, none⟩ = some (ints (z0 :: z1 :: z2 :: z3 :: zr) j)) := zH (fun j hj => by rw [← hc j (by omega)]; exact HB.out.cell (p := ⟨b, off + j, none⟩) hb)
  clear hw1 hc
  have hcp := fun ty => run_copy_cells (P := Try.prog) w1 26 26 ty 3 (w.heap.size + 1) 0 4 4 ⟨b, off, none⟩ n cap [.int .i64 z0, .int .i64 z1, .int .i64 z2, .int .i64 z3] (by kernel_rfl) (by kernel_rfl) (Nat.min_eq_right hn).symm
    (fun j v hj => by
      have hjk : j < 4 := (List.getElem?_eq_some_iff.1 hj).1
      have e : (⟨b, off, none⟩ : Addr).add j = ⟨b, off + j, none⟩ := by unfold Addr.add; split <;> simp_all
      rw [e, hc1.out j hjk, ← hj]
      match j, hjk with
      | 0, _ => rfl
      | 1, _ => rfl
      | 2, _ => rfl
      | 3, _ => rfl)
    (fun j hj => by
      rw [K1.out.2.1 (0 + j)]
      match j, (show j < 4 from hj) with
      | 0, _ => rfl
      | 1, _ => rfl
      | 2, _ => rfl
      | 3, _ => rfl)
    (fun j _ => K1.out.2.2 _)
    (fun v hv => by simp at hv; rcases hv with rfl | rfl | rfl | rfl <;> rfl)
  go_upto_region 3 with (fail)
  clear hcp
  obtain ⟨w2, hw2⟩ : ∃ w2, w1.setCells (w.heap.size + 1) 0 [.int .i64 z0, .int .i64 z1, .int .i64 z2, .int .i64 z3] = w2 := ⟨_, rfl⟩
  rw [hw2]
  have K2 : Hid (Blk w2 (w.heap.size + 1) #[.int .i64 z0, .int .i64 z1, .int .i64 z2, .int .i64 z3]) := by subst hw2; exact zH (((((K1.out.set 0 (.int .i64 z0)).set 1 (.int .i64 z1)).set 2 (.int .i64 z2)).set 3 (.int .i64 z3)))
  have K3 : Hid (Blk w2 w.heap.size #[.int .i64 0, .int .i64 0, .int .i64 0, .int .i64 0]) := by subst hw2; exact zH (((((K0.out.other (p := ⟨w.heap.size + 1, 0, none⟩) (by dsimp only; omega) (.int .i64 z0)).other (p := ⟨w.heap.size + 1, 1, none⟩) (by dsimp only; omega) (.int .i64 z1)).other (p := ⟨w.heap.size + 1, 2, none⟩) (by dsimp only; omega) (.int .i64 z2)).other (p := ⟨w.heap.size + 1, 3, none⟩) (by dsimp only; omega) (.int .i64 z3)))
  have HB2 : Hid (Below w.heap.size w w2) := by subst hw2; exact zH (((((HB.out.setCell (p := ⟨w.heap.size + 1, 0, none⟩) (by dsimp only; omega) (.int .i64 z0)).setCell (p := ⟨w.heap.size + 1, 1, none⟩) (by dsimp only; omega) (.int .i64 z1)).setCell (p := ⟨w.heap.size + 1, 2, none⟩) (by dsimp only; omega) (.int .i64 z2)).setCell (p := ⟨w.heap.size + 1, 3, none⟩) (by dsimp only; omega) (.int .i64 z3)))
  clear hw2 K0 K1 HB
  obtain ⟨h2, k2, f2⟩ := K2.out
  obtain ⟨h3, k3, f3⟩ := K3.out
  go_wp2_with fail
  clear k2 f2 k3 f3
  have F := ((((K3.out.set 0 (.int .i64 z0)).set 1 (.int .i64 z1)).set 2 (.int .i64 z2)).set 3 (.int .i64 z3)).2.1
  have F0 := F 0; have F1 := F 1; have F2 := F 2; have F3 := F 3
  clear F
  refine bodyPost_ret (v := .agg #[.int .i64 z0, .int .i64 z1, .int .i64 z2, .int .i64 z3]) ?_ rfl ⟨rfl, ?_⟩
  · simp [results, Try.results39, go_sem, F0, F1, F2, F3]
  · exact ((((HB2.out.setCell (p := ⟨w.heap.size, 0, none⟩) (Nat.le_refl _) _).setCell (p := ⟨w.heap.size, 1, none⟩) (Nat.le_refl _) _).setCell (p := ⟨w.heap.size, 2, none⟩) (Nat.le_refl _) _).setCell (p := ⟨w.heap.size, 3, none⟩) (Nat.le_refl _) _)

theorem stateOf_g (zs : List Int) (a : Option Addr) (cap : Nat) (w : World) (hr : Reads w a zs.length (ints zs)) :
    Calls Try.prog 39 #[.slice a zs.length cap] w fun e w' => e = .returned (.agg (l4 zs)) ∧ Below w.heap.size w w' := by
  match zs, hr with
  | [], _ => exact stateOf_0 a cap w
  | [z0], hr => exact stateOf_1 z0 a cap w hr
  | [z0, z1], hr => exact stateOf_2 z0 z1 a cap w hr
  | [z0, z1, z2], hr => exact stateOf_3 z0 z1 z2 a cap w hr
  | z0 :: z1 :: z2 :: z3 :: zr, hr => exact stateOf_ge z0 z1 z2 z3 zr _ a cap w (by simp) hr
end
section
open Go.RowKit

/-- Shorter ones first, then in order. -/
def cmpW (a b : List Int) : Int := if a.length < b.length then -1 else if b.length < a.length then 1 else cmpL a b
theorem cmpW_self (a : List Int) : cmpW a a = 0 := by unfold cmpW; rw [if_neg (Nat.lt_irrefl _), if_neg (Nat.lt_irrefl _)]; exact cmpL_self a
theorem cmpW_zero {a b : List Int} (h : cmpW a b = 0) : a = b := by
  unfold cmpW at h
  split at h
  · omega
  · split at h
    · omega
    · exact cmpL_zero h
theorem cmpW_len {a b : List Int} (h : cmpW a b ≤ 0) : a.length ≤ b.length := by
  unfold cmpW at h
  split at h
  · omega
  · split at h
    · omega
    · omega
theorem cmpW_trans {a b c : List Int} (h1 : cmpW a b < 0) (h2 : cmpW b c < 0) : cmpW a c < 0 := by
  have l1 := cmpW_len (Int.le_of_lt h1)
  have l2 := cmpW_len (Int.le_of_lt h2)
  unfold cmpW at *
  by_cases e1 : a.length < c.length
  · rw [if_pos e1]; decide
  · rw [if_neg e1, if_neg (by omega)]
    rw [if_neg (by omega), if_neg (by omega)] at h1 h2
    exact cmpL_trans h1 h2
theorem cmpW_le_lt {a b c : List Int} (h1 : cmpW a b ≤ 0) (h2 : cmpW b c < 0) : cmpW a c < 0 := by
  rcases Int.lt_or_eq_of_le h1 with h | h
  · exact cmpW_trans h h2
  · rw [cmpW_zero h]; exact h2
theorem cmpW_lt_le {a b c : List Int} (h1 : cmpW a b < 0) (h2 : cmpW b c ≤ 0) : cmpW a c < 0 := by
  rcases Int.lt_or_eq_of_le h2 with h | h
  · exact cmpW_trans h1 h
  · rw [← cmpW_zero h]; exact h1
theorem cmpW_le {a b c : List Int} (h1 : cmpW a b ≤ 0) (h2 : cmpW b c ≤ 0) : cmpW a c ≤ 0 := by
  rcases Int.lt_or_eq_of_le h1 with h | h
  · exact Int.le_of_lt (cmpW_lt_le h h2)
  · rw [cmpW_zero h]; exact h2
/-- One more on both. -/
theorem cmpW_snoc {a b : List Int} (x y : Int) : cmpW (a ++ [x]) (b ++ [y]) = if cmpW a b = 0 then cmpL [x] [y] else cmpW a b := by
  unfold cmpW
  rw [List.length_append, List.length_append, List.length_singleton, List.length_singleton]
  by_cases h1 : a.length < b.length
  · rw [if_pos (by omega), if_pos h1, if_neg (by decide)]
  · by_cases h2 : b.length < a.length
    · rw [if_neg (by omega), if_pos (by omega), if_neg h1, if_pos h2, if_neg (by decide)]
    · rw [if_neg (by omega), if_neg (by omega), if_neg h1, if_neg h2]
      exact cmpL_app (by omega) _ _
theorem cmpW_swap (a b : List Int) : cmpW b a = -cmpW a b := by
  unfold cmpW
  by_cases h1 : a.length < b.length
  · rw [if_neg (by omega), if_pos h1, if_pos h1]; rfl
  · by_cases h2 : b.length < a.length
    · rw [if_pos h2, if_neg h1, if_pos h2]
    · rw [if_neg h2, if_neg h1, if_neg h1, if_neg h2]; exact cmpL_swap a b
theorem cmpW_tot {a b : List Int} (h : ¬ cmpW a b < 0) : cmpW b a ≤ 0 := by rw [cmpW_swap]; omega

section
variable {α : Type} (nx : α → Int → Option α) (F : List Int)

/-- Where steps lead to; none if one leads out. -/
def goW : α → List Int → Option α
  | s, [] => some s
  | s, d :: ds => (nx s d).bind fun t => goW t ds
theorem goW_app : ∀ (ds es : List Int) (s : α), goW nx s (ds ++ es) = (goW nx s ds).bind fun t => goW nx t es
  | [], es, s => rfl
  | d :: ds, es, s => by
    show (nx s d).bind (fun t => goW nx t (ds ++ es)) = ((nx s d).bind fun t => goW nx t ds).bind _
    cases nx s d with
    | none => rfl
    | some t => exact goW_app ds es t
theorem goW_snoc (ds : List Int) (n : Int) (s : α) : goW nx s (ds ++ [n]) = (goW nx s ds).bind fun t => nx t n := by
  rw [goW_app]
  congr 1
  funext t
  show (nx t n).bind (fun t => some t) = _
  cases nx t n <;> rfl
/-- What is found, in order, with the way to each; the way out, once there is one. -/
structure Sr (α : Type) where
  fnd : List (α × List Int)
  stp : Option (List Int)
variable [DecidableEq α]
def srC (a : α × List Int) (s : Sr α) (f : Int) : Sr α :=
  match s.stp with
  | some _ => s
  | none => match nx a.1 f with
    | none => ⟨s.fnd, some (a.2 ++ [f])⟩
    | some t => if s.fnd.any (fun x => decide (x.1 = t)) then s else ⟨s.fnd ++ [(t, a.2 ++ [f])], none⟩
def srI (s : Sr α) (a : α × List Int) : Sr α := F.foldl (srC nx a) s
def srch : Nat → Nat → Sr α → Sr α
  | 0, _, s => s
  | n + 1, i, s => match s.stp, s.fnd[i]? with
    | none, some a => srch n (i + 1) (srI nx F s a)
    | _, _ => s
/-- What holds behind all candidates of 'done'. -/
structure SrI (s0 : α) (s : Sr α) (done : List (List Int)) : Prop where
  root : ∃ l, s.fnd = (s0, []) :: l
  srt : s.fnd.Pairwise fun a b => cmpW a.2 b.2 < 0
  nd : (s.fnd.map (·.1)).Nodup
  way : ∀ a ∈ s.fnd, goW nx s0 a.2 = some a.1 ∧ ∀ f ∈ a.2, f ∈ F
  sub : ∀ a ∈ s.fnd, a.2 = [] ∨ a.2 ∈ done
  run : s.stp = none → ∀ w ∈ done, ∃ t, goW nx s0 w = some t ∧ ∃ b ∈ s.fnd, b.1 = t ∧ cmpW b.2 w ≤ 0
theorem SrI.step {s0 : α} {s : Sr α} {done : List (List Int)} {a : α × List Int} {f : Int} (h : SrI nx F s0 s done) (hs : s.stp = none) (ha : goW nx s0 a.2 = some a.1 ∧ ∀ g ∈ a.2, g ∈ F) (hf : f ∈ F) (hd : ∀ w ∈ done, cmpW w (a.2 ++ [f]) < 0) :
    SrI nx F s0 (srC nx a s f) (done ++ [a.2 ++ [f]]) := by
  have hgo : goW nx s0 (a.2 ++ [f]) = nx a.1 f := by rw [goW_snoc, ha.1]; rfl
  have hin : ∀ g ∈ a.2 ++ [f], g ∈ F := fun g hg => by
    rcases List.mem_append.1 hg with hg | hg
    · exact ha.2 g hg
    · have : g = f := by simpa using hg
      subst this; exact hf
  obtain ⟨h1, h2, h3, h4, h5, h6⟩ := h
  have h6 := h6 hs
  unfold srC
  rw [hs]
  dsimp only
  cases e : nx a.1 f with
  | none =>
    exact ⟨h1, h2, h3, h4, fun b hb => (h5 b hb).imp id (fun h => List.mem_append_left _ h), fun h => (by cases h)⟩
  | some t =>
    dsimp only
    by_cases hk : (s.fnd.any fun x => decide (x.1 = t)) = true
    · rw [if_pos hk]
      refine ⟨h1, h2, h3, h4, fun b hb => (h5 b hb).imp id (fun h => List.mem_append_left _ h), fun _ w hw => ?_⟩
      rcases List.mem_append.1 hw with hw | hw
      · exact h6 w hw
      · have : w = a.2 ++ [f] := by simpa using hw
        subst this
        obtain ⟨b, hb, eb⟩ := List.any_eq_true.1 hk
        refine ⟨t, by rw [hgo, e], b, hb, of_decide_eq_true eb, ?_⟩
        rcases h5 b hb with e0 | hbd
        · rw [e0]; unfold cmpW; rw [List.length_append, List.length_singleton, if_pos (by simp)]; decide
        · exact Int.le_of_lt (hd b.2 hbd)
    · rw [if_neg hk]
      refine ⟨?_, ?_, ?_, fun b hb => ?_, fun b hb => ?_, fun _ w hw => ?_⟩
      · obtain ⟨l, hl⟩ := h1
        exact ⟨l ++ [(t, a.2 ++ [f])], by dsimp only; rw [hl]; rfl⟩
      · rw [List.pairwise_append]
        refine ⟨h2, by simp, fun b hb x hx => ?_⟩
        have : x = (t, a.2 ++ [f]) := by simpa using hx
        subst this
        rcases h5 b hb with e0 | hbd
        · rw [e0]; unfold cmpW; dsimp only; rw [List.length_append, List.length_singleton, if_pos (by simp)]; decide
        · exact hd b.2 hbd
      · dsimp only
        rw [List.map_append, List.nodup_append]
        refine ⟨h3, by simp, fun x hx y hy => ?_⟩
        simp only [List.map_cons, List.map_nil, List.mem_singleton] at hy
        subst hy
        rintro rfl
        obtain ⟨z, hz, ez⟩ := List.mem_map.1 hx
        exact hk (List.any_eq_true.2 ⟨z, hz, decide_eq_true ez⟩)
      · rcases List.mem_append.1 hb with hb | hb
        · exact h4 b hb
        · have : b = (t, a.2 ++ [f]) := by simpa using hb
          subst this
          exact ⟨by rw [hgo, e], hin⟩
      · rcases List.mem_append.1 hb with hb | hb
        · exact (h5 b hb).imp id (fun h => List.mem_append_left _ h)
        · have : b = (t, a.2 ++ [f]) := by simpa using hb
          subst this
          exact .inr (by simp)
      · rcases List.mem_append.1 hw with hw | hw
        · obtain ⟨u, hu, b, hb, x⟩ := h6 w hw
          exact ⟨u, hu, b, List.mem_append_left _ hb, x⟩
        · have : w = a.2 ++ [f] := by simpa using hw
          subst this
          exact ⟨t, by rw [hgo, e], (t, a.2 ++ [f]), by simp, rfl, by rw [cmpW_self]; exact Int.le_refl _⟩
end
end
end Go.Proofs.Ytfdlhhinomjakaa
