/-
  Texts of this claim, in their build order: A9.
-/
import Derived.Test.YtjieojkfpoiabaaChains6

/-
  ErrorOf of package hybrid.
-/
namespace Go.Proofs.Ytjieojkfpoiabaa
open Go.RowKit
attribute [local go_sem] Oper.semAt_some

def offE (off : Int) : Int := unl (decide (0 ≤ off) && decide (off ≤ 1000)) 2
def errE (x : HT) (zs : List Int) (off : Int) : Int := firstE [testE x, forcesE x zs, offE off]
def stepWay (s : List Int × List Int) : Int := gi s.2 0 - gi s.1 1
def stepErr (x : HT) (s : List Int × List Int) : Int := x.s * (cmdV x s.1 x.dl.toNat - gi s.1 0) * stepWay s
def stepWide (off : Int) (s : List Int × List Int) : Int := off * sizeI (stepWay s)
def sumE (f : List Int × List Int → Int) (l : List (List Int × List Int)) : Int := (l.map f).sum

theorem Blk.agree {B : Nat} {M : Nat → Prop} {W1 W2 : World} {b : Nat} {cs : Array Value} (h : Blk W1 b cs) (hag : Agree B M W1 W2) (hb : M b ∨ b < B) : Blk W2 b cs := by
  have hh : W2.heap[b]? = W1.heap[b]? := hb.elim (hag.same b h.1) (hag.low b)
  exact ⟨Nat.lt_of_lt_of_le h.1 hag.size, fun o => (World.cell?_of_block (w := W1) (a := ⟨b, o, none⟩) hh).trans (h.2.1 o), fun o => (World.frozen?_of_block (w := W1) (a := ⟨b, o, none⟩) hh).trans (h.2.2 o)⟩

set_option maxHeartbeats 400000 in
set_option maxRecDepth 100000 in
theorem ErrorOf_err (x : HT) (zs : List Int) (a : Option Addr) (cap : Nat) (off : Int) (w : World) (hlen : zs.length ≤ maxLen) (hr : Reads w a zs.length (ints zs)) (he : errE x zs off ≠ 0) :
    Calls Try.prog 13 #[.agg x.cells, .slice a zs.length cap, .int .i64 off] w fun e w' => e = .returned (.tuple #[.agg #[.int .i64 0, .int .i64 0], .int .i64 (errE x zs off)]) ∧ Below w.heap.size w w' := by
  have hne : (errE x zs off != 0) = true := by simpa using he
  have HE := Lib.hid he
  clear he
  have hR := Lib.hid hr
  clear hr
  go_enter Try.func13, Try.ntmps13
  go_wp2_with fail
  obtain ⟨W, hW⟩ : ∃ W, ((w.alloc (.cells x.cells 25)).alloc (.cells #[.int .i64 off] 3)).alloc (.cells #[.int .i64 0, .int .i64 0] 23) = W := ⟨_, rfl⟩
  rw [hW]
  have K0 : Hid (Blk W w.heap.size x.cells) := by subst hW; exact ((Blk.new _ _ _).alloc _).alloc _
  have K1 : Hid (Blk W (w.heap.size + 1) #[.int .i64 off]) := by subst hW; exact (Blk.newAt _ _ _ (by simp)).alloc _
  have K2 : Hid (Blk W (w.heap.size + 2) #[.int .i64 0, .int .i64 0]) := by subst hW; exact Blk.newAt _ _ _ (by simp)
  have HB : Hid (Below w.heap.size w W) := by subst hW; exact bAlloc (bAlloc (bAlloc (bSelf w) _) _) _
  replace hR : Hid (Reads W a zs.length (ints zs)) := by subst hW; exact ((hR.out.alloc _).alloc _).alloc _
  clear hW
  refine wp_region_quiet_tail 8 (fun w' => Below (World.heap W).size (W) w') (by kernel_rfl) (by kernel_rfl) (Below.refl _ _).drew ?_
  simp only [List.take_succ_cons, List.take_zero, List.drop_succ_cons, List.drop_zero]
  repeat (first | (refine wpQuiet_no (by rfl) ?_; (simp only [Act.put, List.setIfInBounds_toArray, List.set_cons_zero, List.set_cons_succ])) | (refine wpQuiet_yes (by rfl) ?_; apply Exists.intro; refine ⟨fun w1 hb1 => ?_, ?_⟩; (focus (((obtain ⟨-, k0, -⟩ := K0.out.to hb1; obtain ⟨-, k1, -⟩ := K1.out.to hb1); have hb1 := Lib.hid hb1; go_simp); (try (go_bits; try go_simp)); (first | done | ((first | (go_at_call 35; refine (CheckTest_any x _).mono ?_; rintro e w' ⟨rfl, hb⟩; exact ⟨rfl, bThen hb1.out hb⟩) | (go_at_call 74; refine (forcesErr_any x zs a cap _ hlen (hR.out.to hb1.out)).mono ?_; rintro e w' ⟨rfl, hb⟩; exact ⟨rfl, bThen hb1.out hb⟩) | (go_at_call 77; refine (within_any _ _ _ _).mono ?_; rintro e w' ⟨rfl, rfl⟩; exact ⟨rfl, hb1.out⟩) | (go_at_call 76; refine (unless_any _ _ _).mono ?_; rintro e w' ⟨rfl, rfl⟩; exact ⟨rfl, hb1.out⟩))) | (with_reducible rfl) | exact rfl))); (simp only [Act.put, List.setIfInBounds_toArray, List.set_cons_zero, List.set_cons_succ])))
  refine wpQuiet_nil ?_
  intro w1 hb1
  have hb1 := Lib.hid hb1
  go_wp2_with fail
  refine (first3_new _ _ _ _ _ (by simp)).mono ?_
  rintro e w' ⟨rfl, rfl⟩
  have e1 : firstE [testE x, forcesE x zs, unl (decide (0 ≤ off) && decide (off ≤ 1000)) 2] = errE x zs off := rfl
  rw [e1]
  clear e1
  obtain ⟨W2, hW2⟩ : ∃ W2, w1.alloc (.cells #[.int .i64 (testE x), .int .i64 (forcesE x zs), .int .i64 (unl (decide (0 ≤ off) && decide (off ≤ 1000)) 2)] 28) = W2 := ⟨_, rfl⟩
  rw [hW2]
  replace K0 : Hid (Blk W2 w.heap.size x.cells) := by subst hW2; exact (K0.out.to hb1.out).alloc _
  replace K1 : Hid (Blk W2 (w.heap.size + 1) #[.int .i64 off]) := by subst hW2; exact (K1.out.to hb1.out).alloc _
  replace K2 : Hid (Blk W2 (w.heap.size + 2) #[.int .i64 0, .int .i64 0]) := by subst hW2; exact (K2.out.to hb1.out).alloc _
  replace HB : Hid (Below w.heap.size w W2) := by subst hW2; exact bAlloc (bThen HB.out hb1.out) _
  replace hR : Hid (Reads W2 a zs.length (ints zs)) := by subst hW2; exact (hR.out.to hb1.out).alloc _
  clear hW2
  obtain ⟨-, k2, k2f⟩ := K2.out
  go_wp2_with fail
  have F := (K2.out.set 0 (.int .i64 0)).set 1 (.int .i64 0)
  have F0 := F.2.1 0
  have F1 := F.2.1 1
  clear F k2 k2f
  refine bodyPost_ret (v := .tuple #[.agg #[.int .i64 0, .int .i64 0], .int .i64 (errE x zs off)]) ?_ rfl ⟨rfl, ?_⟩
  · simp [results, Try.results13, go_sem, F0, F1]
  · exact (HB.out.setCell (p := ⟨w.heap.size + 2, 0, none⟩) (by dsimp only; omega) _).setCell (p := ⟨w.heap.size + 2, 1, none⟩) (by dsimp only; omega) _

theorem errE_zero {x : HT} {zs : List Int} {off : Int} (h : errE x zs off = 0) : x.ok ∧ zs.length ≤ 60 ∧ (∀ k, k < zs.length → -1000 ≤ gi zs k ∧ gi zs k ≤ 1000) ∧ 0 ≤ off ∧ off ≤ 1000 := by
  have h1 := firstE_zero (show firstE [_, _, _] = 0 from h)
  have h2 := testE_zero (h1 _ (List.mem_cons_self ..))
  have h3 := forcesE_zero (h1 _ (List.mem_cons_of_mem _ (List.mem_cons_self ..)))
  have h4 := h1 (offE off) (List.mem_cons_of_mem _ (List.mem_cons_of_mem _ (List.mem_cons_self ..)))
  have h5 : 0 ≤ off ∧ off ≤ 1000 := by
    unfold offE unl at h4
    split at h4
    · rename_i hb; simpa using hb
    · omega
  exact ⟨h2, h3.1, fun k hk => by have := h3.2 k hk; have := h2.lo1; have := h2.hi2; omega, h5⟩

/-- What is known of each step of a run: a state within the bound, and a number that is not too great. -/
structure StepOk (s : List Int × List Int) : Prop where
  len : s.1.length = 4
  st : St (gi s.1 0) (gi s.1 1) (gi s.1 2) (gi s.1 3)
  lo : -200000 ≤ gi s.2 0
  hi : gi s.2 0 ≤ 200000
theorem nextV_bd (x : HT) (a0 a1 a2 a3 f : Int) (hx : x.ok) (hs : St a0 a1 a2 a3) (hf1 : -1000 ≤ f) (hf2 : f ≤ 1000) : -200000 ≤ nextV x [a0, a1, a2, a3] f ∧ nextV x [a0, a1, a2, a3] f ≤ 200000 := by
  have hc := cmdV_bd x a0 a1 a2 a3 hx hs
  obtain ⟨l0, u0, l1, u1, l2, u2, l3, u3⟩ := hs
  have h1 := mul_bd (a := x.d) (b := a0 - a1) (A := 1000) (B := 6) (by have := hx.d1; omega) hx.d2 (by omega) (by omega)
  have h2 := mul_bd (a := x.c) (b := a0) (A := 1000) (B := 3) (by have := hx.c1; omega) hx.c2 (by omega) (by omega)
  have h3 := mul_bd (a := x.s) (b := cmdV x [a0, a1, a2, a3] x.dl.toNat) (A := 1000) (B := 15) (by have := hx.s1; omega) hx.s2 (by omega) (by omega)
  have h4 : -100000 ≤ pushV x [a0, a1, a2, a3] f ∧ pushV x [a0, a1, a2, a3] f ≤ 100000 := by simp only [pushV, gi, List.getD_cons_zero, List.getD_cons_succ]; omega
  have h5 := ediv_bd (pushV x [a0, a1, a2, a3] f) x.m 100000 (by have := hx.m1; omega) (by omega) h4.1 h4.2
  simp only [nextV, gi, List.getD_cons_zero, List.getD_cons_succ] at *
  omega
theorem stepsL_ok (x : HT) (hx : x.ok) : ∀ (zs : List Int) (a0 a1 a2 a3 : Int), St a0 a1 a2 a3 → (∀ k, k < zs.length → -1000 ≤ gi zs k ∧ gi zs k ≤ 1000) → ∀ s ∈ stepsL x [a0, a1, a2, a3] zs, StepOk s
  | [], _, _, _, _, _, _, s, hs => by cases hs
  | f :: zs, a0, a1, a2, a3, hst, hz, s, hs => by
    have h0 := hz 0 (by simp)
    have hb := nextV_bd x a0 a1 a2 a3 f hx hst h0.1 h0.2
    simp only [stepsL] at hs
    rcases List.mem_cons.1 hs with rfl | hs
    · exact ⟨rfl, hst, hb.1, hb.2⟩
    · split at hs
      · rename_i hin
        exact stepsL_ok x hx zs _ _ _ _ (St_next hx hst hin) (fun k hk => hz (k + 1) (by simpa using hk)) s hs
      · cases hs
theorem sum_bd {f : List Int × List Int → Int} {B : Int} : ∀ (l : List (List Int × List Int)), (∀ s ∈ l, -B ≤ f s ∧ f s ≤ B) → -(B * l.length) ≤ sumE f l ∧ sumE f l ≤ B * l.length
  | [], _ => by simp [sumE]
  | s :: l, h => by
    have h1 := sum_bd l (fun s hs => h s (List.mem_cons_of_mem _ hs))
    have h2 := h s (List.mem_cons_self ..)
    unfold sumE at *
    simp only [List.map_cons, List.sum_cons, List.length_cons, Int.natCast_add, Int.mul_add]
    omega
theorem sumE_snoc (f : List Int × List Int → Int) (l : List (List Int × List Int)) (s : List Int × List Int) : sumE f (l ++ [s]) = sumE f l + f s := by simp [sumE]
theorem sizeI_bd {n B : Int} (h1 : -B ≤ n) (h2 : n ≤ B) : 0 ≤ sizeI n ∧ sizeI n ≤ B := by unfold sizeI; omega
theorem four (l : List Int) (h : l.length = 4) : l = [gi l 0, gi l 1, gi l 2, gi l 3] := by
  match l, h with
  | [a, b, c, d], _ => rfl

end Go.Proofs.Ytjieojkfpoiabaa

