/-
  Texts of this claim, in their build order: A9 A10.
-/
import Derived.Test.YtjieojkfpoiabaaHalves6

/-
  ErrorOf of package hybrid.
-/
namespace Go.Proofs.Ytjieojkfpoiabaa
open Go.RowKit
attribute [local go_sem] Oper.semAt_some

def offE (off : Int) : Int := unl (decide (0 ≤ off) && decide (off ≤ 1000)) 2
def errE (x : HT) (zs : List Int) (off : Int) : Int := firstE [testE x, forcesE x zs, offE off]
def stepWay (s : List Int × List Int) : Int := gi s.2 0 - gi s.1 1
def stepErr (x : HT) (s : List Int × List Int) : Int := x.s * (cmdV x s.1 x.dl.toNat - gi s.1 0) * stepWay s
def stepWide (off : Int) (s : List Int × List Int) : Int := off * sizeI (stepWay s)
def sumE (f : List Int × List Int → Int) (l : List (List Int × List Int)) : Int := (l.map f).sum

theorem Blk.agree {B : Nat} {M : Nat → Prop} {W1 W2 : World} {b : Nat} {cs : Array Value} (h : Blk W1 b cs) (hag : Agree B M W1 W2) (hb : M b ∨ b < B) : Blk W2 b cs := by
  have hh : W2.heap[b]? = W1.heap[b]? := hb.elim (hag.same b h.1) (hag.low b)
  exact ⟨Nat.lt_of_lt_of_le h.1 hag.size, fun o => (World.cell?_of_block (w := W1) (a := ⟨b, o, none⟩) hh).trans (h.2.1 o), fun o => (World.frozen?_of_block (w := W1) (a := ⟨b, o, none⟩) hh).trans (h.2.2 o)⟩

theorem errE_zero {x : HT} {zs : List Int} {off : Int} (h : errE x zs off = 0) : x.ok ∧ zs.length ≤ 60 ∧ (∀ k, k < zs.length → -1000 ≤ gi zs k ∧ gi zs k ≤ 1000) ∧ 0 ≤ off ∧ off ≤ 1000 := by
  have h1 := firstE_zero (show firstE [_, _, _] = 0 from h)
  have h2 := testE_zero (h1 _ (List.mem_cons_self ..))
  have h3 := forcesE_zero (h1 _ (List.mem_cons_of_mem _ (List.mem_cons_self ..)))
  have h4 := h1 (offE off) (List.mem_cons_of_mem _ (List.mem_cons_of_mem _ (List.mem_cons_self ..)))
  have h5 : 0 ≤ off ∧ off ≤ 1000 := by
    unfold offE unl at h4
    split at h4
    · rename_i hb; simpa using hb
    · omega
  exact ⟨h2, h3.1, fun k hk => by have := h3.2 k hk; have := h2.lo1; have := h2.hi2; omega, h5⟩

/-- What is known of each step of a run: a state within the bound, and a number that is not too great. -/
structure StepOk (s : List Int × List Int) : Prop where
  len : s.1.length = 4
  st : St (gi s.1 0) (gi s.1 1) (gi s.1 2) (gi s.1 3)
  lo : -200000 ≤ gi s.2 0
  hi : gi s.2 0 ≤ 200000
theorem nextV_bd (x : HT) (a0 a1 a2 a3 f : Int) (hx : x.ok) (hs : St a0 a1 a2 a3) (hf1 : -1000 ≤ f) (hf2 : f ≤ 1000) : -200000 ≤ nextV x [a0, a1, a2, a3] f ∧ nextV x [a0, a1, a2, a3] f ≤ 200000 := by
  have hc := cmdV_bd x a0 a1 a2 a3 hx hs
  obtain ⟨l0, u0, l1, u1, l2, u2, l3, u3⟩ := hs
  have h1 := mul_bd (a := x.d) (b := a0 - a1) (A := 1000) (B := 6) (by have := hx.d1; omega) hx.d2 (by omega) (by omega)
  have h2 := mul_bd (a := x.c) (b := a0) (A := 1000) (B := 3) (by have := hx.c1; omega) hx.c2 (by omega) (by omega)
  have h3 := mul_bd (a := x.s) (b := cmdV x [a0, a1, a2, a3] x.dl.toNat) (A := 1000) (B := 15) (by have := hx.s1; omega) hx.s2 (by omega) (by omega)
  have h4 : -100000 ≤ pushV x [a0, a1, a2, a3] f ∧ pushV x [a0, a1, a2, a3] f ≤ 100000 := by simp only [pushV, gi, List.getD_cons_zero, List.getD_cons_succ]; omega
  have h5 := ediv_bd (pushV x [a0, a1, a2, a3] f) x.m 100000 (by have := hx.m1; omega) (by omega) h4.1 h4.2
  simp only [nextV, gi, List.getD_cons_zero, List.getD_cons_succ] at *
  omega
theorem stepsL_ok (x : HT) (hx : x.ok) : ∀ (zs : List Int) (a0 a1 a2 a3 : Int), St a0 a1 a2 a3 → (∀ k, k < zs.length → -1000 ≤ gi zs k ∧ gi zs k ≤ 1000) → ∀ s ∈ stepsL x [a0, a1, a2, a3] zs, StepOk s
  | [], _, _, _, _, _, _, s, hs => by cases hs
  | f :: zs, a0, a1, a2, a3, hst, hz, s, hs => by
    have h0 := hz 0 (by simp)
    have hb := nextV_bd x a0 a1 a2 a3 f hx hst h0.1 h0.2
    simp only [stepsL] at hs
    rcases List.mem_cons.1 hs with rfl | hs
    · exact ⟨rfl, hst, hb.1, hb.2⟩
    · split at hs
      · rename_i hin
        exact stepsL_ok x hx zs _ _ _ _ (St_next hx hst hin) (fun k hk => hz (k + 1) (by simpa using hk)) s hs
      · cases hs
theorem sum_bd {f : List Int × List Int → Int} {B : Int} : ∀ (l : List (List Int × List Int)), (∀ s ∈ l, -B ≤ f s ∧ f s ≤ B) → -(B * l.length) ≤ sumE f l ∧ sumE f l ≤ B * l.length
  | [], _ => by simp [sumE]
  | s :: l, h => by
    have h1 := sum_bd l (fun s hs => h s (List.mem_cons_of_mem _ hs))
    have h2 := h s (List.mem_cons_self ..)
    unfold sumE at *
    simp only [List.map_cons, List.sum_cons, List.length_cons, Int.natCast_add, Int.mul_add]
    omega
theorem sumE_snoc (f : List Int × List Int → Int) (l : List (List Int × List Int)) (s : List Int × List Int) : sumE f (l ++ [s]) = sumE f l + f s := by simp [sumE]
theorem sizeI_bd {n B : Int} (h1 : -B ≤ n) (h2 : n ≤ B) : 0 ≤ sizeI n ∧ sizeI n ≤ B := by unfold sizeI; omega
theorem four (l : List Int) (h : l.length = 4) : l = [gi l 0, gi l 1, gi l 2, gi l 3] := by
  match l, h with
  | [a, b, c, d], _ => rfl

end Go.Proofs.Ytjieojkfpoiabaa

/-
  ErrorOf of package hybrid, where there is no error.
-/
namespace Go.Proofs.Ytjieojkfpoiabaa
open Go.RowKit
attribute [local go_sem] Oper.semAt_some

/-- What the body of ErrorOf's loop has made. b: the first block of the loop's own variables; S: the heap's size where the loop begins. -/
structure ErrI (x : HT) (off : Int) (w : World) (b S : Nat) (pre : List (List Int × List Int)) (M : Nat → Prop) (W : World) : Prop where
  sum : Blk W (b + 1) #[.int .i64 (sumE (stepErr x) pre)]
  wide : Blk W (b + 2) #[.int .i64 (sumE (stepWide off) pre)]
  m1 : M (b + 1)
  m2 : M (b + 2)
  fit : ∀ k, M k → k < W.heap.size ∧ (k = b + 1 ∨ k = b + 2 ∨ S ≤ k)
  k0 : Blk W w.heap.size x.cells
  k1 : Blk W (w.heap.size + 1) #[.int .i64 off]
  k2 : Blk W (w.heap.size + 2) #[.int .i64 0, .int .i64 0]
  k9 : Blk W b x.cells
  below : Below w.heap.size w W

theorem ErrI.agree {x : HT} {off : Int} {w : World} {b S : Nat} {pre : List (List Int × List Int)} {M : Nat → Prop} {W1 W2 : World} (h : ErrI x off w b S pre M W1) (hag : Agree S M W1 W2) (hb : w.heap.size + 3 ≤ b) (hS : b < S) : ErrI x off w b S pre M W2 :=
  ⟨h.sum.agree hag (.inl h.m1), h.wide.agree hag (.inl h.m2), h.m1, h.m2, fun k hk => ⟨Nat.lt_of_lt_of_le (h.fit k hk).1 hag.size, (h.fit k hk).2⟩,
    h.k0.agree hag (.inr (by omega)), h.k1.agree hag (.inr (by omega)), h.k2.agree hag (.inr (by omega)), h.k9.agree hag (.inr (by omega)), h.below.trans (hag.below.mono (by omega))⟩
theorem ErrI.more {x : HT} {off : Int} {w : World} {b S : Nat} {pre : List (List Int × List Int)} {M M' : Nat → Prop} {W : World} (h : ErrI x off w b S pre M W) (h1 : ∀ k, M k → M' k) (h2 : ∀ k, M' k → k < W.heap.size ∧ (k = b + 1 ∨ k = b + 2 ∨ S ≤ k)) : ErrI x off w b S pre M' W :=
  ⟨h.sum, h.wide, h1 _ h.m1, h1 _ h.m2, h2, h.k0, h.k1, h.k2, h.k9, h.below⟩

theorem ErrI.next {x : HT} {off : Int} {w : World} {b S : Nat} {pre : List (List Int × List Int)} {s : List Int × List Int} {M : Nat → Prop} {W W1 : World} (h : ErrI x off w b S pre M W) (hb1 : Below W.heap.size W W1) (hb : w.heap.size + 3 ≤ b) (hS : b + 5 ≤ S) {v1 v2 : Int}
    (h1 : v1 = sumE (stepErr x) (pre ++ [s])) (h2 : v2 = sumE (stepWide off) (pre ++ [s])) :
    ErrI x off w b S (pre ++ [s]) M ((W1.setCell ⟨b + 1, 0, none⟩ (.int .i64 v1)).setCell ⟨b + 1 + 1, 0, none⟩ (.int .i64 v2)) ∧ Upd M M W ((W1.setCell ⟨b + 1, 0, none⟩ (.int .i64 v1)).setCell ⟨b + 1 + 1, 0, none⟩ (.int .i64 v2)) := by
  have hu1 := Upd.of_below (fun k hk => (h.fit k hk).1) hb1
  have hu2 := Upd.setCell hu1.fit ⟨b + 1, 0, none⟩ (.int .i64 v1) h.m1
  have hu3 := Upd.setCell hu2.fit ⟨b + 1 + 1, 0, none⟩ (.int .i64 v2) h.m2
  have hu := (hu1.trans hu2).trans hu3
  have hn : ∀ k, k < b + 1 → ¬ M k := fun k hk hm => by rcases (h.fit k hm).2 with h | h | h <;> omega
  subst h1 h2
  refine ⟨⟨?_, ?_, h.m1, h.m2, fun k hk => ⟨hu.fit k hk, (h.fit k hk).2⟩, h.k0.upd hu (hn _ (by omega)), h.k1.upd hu (hn _ (by omega)), h.k2.upd hu (hn _ (by omega)), h.k9.upd hu (hn _ (by omega)), h.below.trans (hu.below (by have := h.k2.1; omega) (fun k hk => by rcases (h.fit k hk).2 with h | h | h <;> omega))⟩, hu⟩
  · exact ((h.sum.to hb1).set 0 _).other (p := ⟨b + 1 + 1, 0, none⟩) (by dsimp only; omega) _
  · exact ((h.wide.to hb1).other (p := ⟨b + 1, 0, none⟩) (by dsimp only; omega) _).set 0 _

theorem stepWay_bd {s : List Int × List Int} (h : StepOk s) : -200003 ≤ stepWay s ∧ stepWay s ≤ 200003 := by
  have := h.st.l1; have := h.st.u1; have := h.lo; have := h.hi
  unfold stepWay; omega
theorem stepErr_bd {x : HT} {s : List Int × List Int} (hx : x.ok) (h : StepOk s) : -(18000 * 200003) ≤ stepErr x s ∧ stepErr x s ≤ 18000 * 200003 := by
  have hc := cmdV_bd x _ _ _ _ hx h.st
  rw [← four s.1 h.len] at hc
  have := h.st.l0; have := h.st.u0
  have hw := stepWay_bd h
  have h1 := mul_bd (a := x.s) (b := cmdV x s.1 x.dl.toNat - gi s.1 0) (A := 1000) (B := 18) (by have := hx.s1; omega) hx.s2 (by omega) (by omega)
  exact mul_bd (a := x.s * (cmdV x s.1 x.dl.toNat - gi s.1 0)) (b := stepWay s) (A := 18000) (B := 200003) (by omega) (by omega) hw.1 hw.2
theorem stepWide_bd {off : Int} {s : List Int × List Int} (h0 : 0 ≤ off) (h1 : off ≤ 1000) (h : StepOk s) : -(1000 * 200003) ≤ stepWide off s ∧ stepWide off s ≤ 1000 * 200003 := by
  have hw := stepWay_bd h
  have h2 := sizeI_bd hw.1 hw.2
  exact mul_bd (a := off) (b := sizeI (stepWay s)) (A := 1000) (B := 200003) (by omega) h1 (by omega) h2.2

set_option maxHeartbeats 1600000 in
set_option maxRecDepth 100000 in
theorem ErrorOf_ok (x : HT) (zs : List Int) (a : Option Addr) (cap : Nat) (off : Int) (w : World) (hlen : zs.length ≤ maxLen) (hr : Reads w a zs.length (ints zs)) (he : errE x zs off = 0) :
    Calls Try.prog 13 #[.agg x.cells, .slice a zs.length cap, .int .i64 off] w fun e w' => e = .returned (.tuple #[.agg #[.int .i64 (sumE (stepErr x) (stepsL x [0, 0, 0, 0] zs) - sumE (stepWide off) (stepsL x [0, 0, 0, 0] zs)), .int .i64 (sumE (stepErr x) (stepsL x [0, 0, 0, 0] zs) + sumE (stepWide off) (stepsL x [0, 0, 0, 0] zs))], .int .i64 0]) ∧ Below w.heap.size w w' := by
  have hne : (errE x zs off != 0) = false := by simpa using he
  obtain ⟨hx, hfew, hz, hoff⟩ := errE_zero he
  have OFF := Lib.hid hoff
  clear hoff
  clear he
  have HZ := Lib.hid hz
  have HOK := Lib.hid (stepsL_ok x hx zs 0 0 0 0 ⟨by omega, by omega, by omega, by omega, by omega, by omega, by omega, by omega⟩ hz)
  clear hz
  have HLEN := Lib.hid (stepsL_len x zs [0, 0, 0, 0])
  have hR := Lib.hid hr
  clear hr
  refine (callsIn_wide (n := 5)).1 ?_
  refine callsIn_of_wp_marks Try.func13 rfl trivial ?_ rfl
  simp only [Try.ntmps13, List.size_toArray, List.length_cons, List.length_nil, Nat.reduceAdd, Nat.reduceSub, Array.replicate_succ, Array.replicate_zero, List.push_toArray, List.append_toArray, List.nil_append, List.cons_append]
  gi_wp2_with fail
  obtain ⟨W, hW⟩ : ∃ W, ((w.alloc (.cells x.cells 25)).alloc (.cells #[.int .i64 off] 3)).alloc (.cells #[.int .i64 0, .int .i64 0] 23) = W := ⟨_, rfl⟩
  rw [hW]
  have K0 : Hid (Blk W w.heap.size x.cells) := by subst hW; exact ((Blk.new _ _ _).alloc _).alloc _
  have K1 : Hid (Blk W (w.heap.size + 1) #[.int .i64 off]) := by subst hW; exact (Blk.newAt _ _ _ (by simp)).alloc _
  have K2 : Hid (Blk W (w.heap.size + 2) #[.int .i64 0, .int .i64 0]) := by subst hW; exact Blk.newAt _ _ _ (by simp)
  have HB : Hid (Below w.heap.size w W) := by subst hW; exact bAlloc (bAlloc (bAlloc (bSelf w) _) _) _
  replace hR : Hid (Reads W a zs.length (ints zs)) := by subst hW; exact ((hR.out.alloc _).alloc _).alloc _
  clear hW
  refine wpIn_wide.2 ?_
  refine wp_region_quiet_tail 8 (fun w' => Below (World.heap W).size (W) w') (by kernel_rfl) (by kernel_rfl) (Below.refl _ _).drew ?_
  simp only [List.take_succ_cons, List.take_zero, List.drop_succ_cons, List.drop_zero]
  repeat (first | (refine wpQuiet_no (by rfl) ?_; (simp only [Act.put, List.setIfInBounds_toArray, List.set_cons_zero, List.set_cons_succ])) | (refine wpQuiet_yes (by rfl) ?_; apply Exists.intro; refine ⟨fun w1 hb1 => ?_, ?_⟩; (focus (((obtain ⟨-, k0, -⟩ := K0.out.to hb1; obtain ⟨-, k1, -⟩ := K1.out.to hb1); have hb1 := Lib.hid hb1; go_simp); (try (go_bits; try go_simp)); (first | done | ((first | (go_at_call 35; refine (CheckTest_any x _).mono ?_; rintro e w' ⟨rfl, hb⟩; exact ⟨rfl, bThen hb1.out hb⟩) | (go_at_call 74; refine (forcesErr_any x zs a cap _ hlen (hR.out.to hb1.out)).mono ?_; rintro e w' ⟨rfl, hb⟩; exact ⟨rfl, bThen hb1.out hb⟩) | (go_at_call 77; refine (within_any _ _ _ _).mono ?_; rintro e w' ⟨rfl, rfl⟩; exact ⟨rfl, hb1.out⟩) | (go_at_call 76; refine (unless_any _ _ _).mono ?_; rintro e w' ⟨rfl, rfl⟩; exact ⟨rfl, hb1.out⟩))) | (with_reducible rfl) | exact rfl))); (simp only [Act.put, List.setIfInBounds_toArray, List.set_cons_zero, List.set_cons_succ])))
  refine wpQuiet_nil ?_
  intro w1 hb1
  have hb1 := Lib.hid hb1
  go_wp2_with fail
  refine (first3_new _ _ _ _ _ (by simp)).mono ?_
  rintro e w' ⟨rfl, rfl⟩
  have e1 : firstE [testE x, forcesE x zs, unl (decide (0 ≤ off) && decide (off ≤ 1000)) 2] = errE x zs off := rfl
  rw [e1]
  clear e1
  obtain ⟨W2, hW2⟩ : ∃ W2, w1.alloc (.cells #[.int .i64 (testE x), .int .i64 (forcesE x zs), .int .i64 (unl (decide (0 ≤ off) && decide (off ≤ 1000)) 2)] 28) = W2 := ⟨_, rfl⟩
  rw [hW2]
  replace K0 : Hid (Blk W2 w.heap.size x.cells) := by subst hW2; exact (K0.out.to hb1.out).alloc _
  replace K1 : Hid (Blk W2 (w.heap.size + 1) #[.int .i64 off]) := by subst hW2; exact (K1.out.to hb1.out).alloc _
  replace K2 : Hid (Blk W2 (w.heap.size + 2) #[.int .i64 0, .int .i64 0]) := by subst hW2; exact (K2.out.to hb1.out).alloc _
  replace HB : Hid (Below w.heap.size w W2) := by subst hW2; exact bAlloc (bThen HB.out hb1.out) _
  replace hR : Hid (Reads W2 a zs.length (ints zs)) := by subst hW2; exact (hR.out.to hb1.out).alloc _
  clear hW2
  obtain ⟨hsz, k0, -⟩ := K0.out
  go_wp2_with fail
  gi_wp2_with fail
  refine ⟨trivial, (callsIn_wide.2 (steps_any x a zs.length cap _)).mono ?_⟩
  rintro e w' ⟨rfl, rfl⟩
  obtain ⟨W3, hW3⟩ : ∃ W3, ((((W2.alloc (.cells x.cells 121)).alloc (.cells #[.int .i64 0] 3)).alloc (.cells #[.int .i64 0] 3)).alloc (.cells x.cells 121)).alloc (.cells #[.slice a zs.length cap] 26) = W3 := ⟨_, rfl⟩
  rw [hW3]
  have hsz3 : W3.heap.size = W2.heap.size + 5 := by subst hW3; simp
  have hsz2 : w.heap.size + 3 ≤ W2.heap.size := by have := K2.out.1; omega
  have KX : Hid (Blk W3 (W2.heap.size + 3) x.cells) := by subst hW3; exact (Blk.newAt _ _ _ (by simp)).alloc _
  have KZ : Hid (Blk W3 (W2.heap.size + 4) #[.slice a zs.length cap]) := by subst hW3; exact Blk.newAt _ _ _ (by simp)
  have HO : Hid (ErrI x off w W2.heap.size W3.heap.size [] (fun k => k = W2.heap.size + 1 ∨ k = W2.heap.size + 2) W3) := by
    refine Lib.hid ⟨?_, ?_, .inl rfl, .inr rfl, fun k hk => ⟨by rcases hk with rfl | rfl <;> omega, by rcases hk with rfl | rfl <;> omega⟩, ?_, ?_, ?_, ?_, ?_⟩
    · subst hW3; exact (((Blk.newAt _ _ _ (by simp)).alloc _).alloc _).alloc _
    · subst hW3; exact ((Blk.newAt _ _ _ (by simp)).alloc _).alloc _
    · subst hW3; exact ((((K0.out.alloc _).alloc _).alloc _).alloc _).alloc _
    · subst hW3; exact ((((K1.out.alloc _).alloc _).alloc _).alloc _).alloc _
    · subst hW3; exact ((((K2.out.alloc _).alloc _).alloc _).alloc _).alloc _
    · subst hW3; exact ((((Blk.new _ _ _).alloc _).alloc _).alloc _).alloc _
    · subst hW3; exact bAlloc (bAlloc (bAlloc (bAlloc (bAlloc HB.out _) _) _) _) _
  have hRlt := hR
  replace hR : Hid (Reads W3 a zs.length (ints zs)) := by subst hW3; exact ((((hR.out.alloc _).alloc _).alloc _).alloc _).alloc _
  clear hW3 k0
  have hsz3' : W2.heap.size + 5 ≤ W3.heap.size := by omega
  have HS3 := Lib.hid hsz3
  clear hsz3
  gi_wp2_with fail
  refine wpIn_rangeFunc_M (xs := stepsL x [0, 0, 0, 0] zs) rfl (by intro args w; go_simp) (steps1_in 4 x zs a cap (W2.heap.size + 3) (W2.heap.size + 4) W3 hx HZ.out hlen KX.out KZ.out hR.out) (bSelf _) (fun _ => rfl) ?hRd
    (ErrI x off w W2.heap.size W3.heap.size) (fun _ _ _ => False) (fun k => k = W2.heap.size + 1 ∨ k = W2.heap.size + 2) ?hM (fun _ _ _ _ h hag => h.agree hag (by omega) (by omega)) (fun _ _ _ _ _ h _ _ => h)
    (fun b pre s M1 a₁ W => ErrI x off w W2.heap.size W3.heap.size pre M1 W ∧ ∃ bs, Blk W bs (stepC s) ∧ M1 bs ∧ bs ≠ W2.heap.size + 1 ∧ bs ≠ W2.heap.size + 2 ∧ a₁ = { tmps := (b.tmps.setIfInBounds 33 (.agg (stepC s))).setIfInBounds 12 (.pointer (some ⟨bs, 0, none⟩)), defers := [] })
    ?hI1 HO.out ?hassign ?hbody ?hdone (fun _ _ _ _ _ _ _ _ h _ => h.elim)
  case hRd =>
    rintro k (rfl | rfl | ⟨h0, off, e⟩)
    · omega
    · omega
    · obtain ⟨b', off', e', h, -⟩ := hR.out.at (k := 0) h0
      rw [e] at e'; cases e'; exact h
  case hM =>
    intro k hk
    refine ⟨by rcases hk with rfl | rfl <;> omega, ?_⟩
    rintro (rfl | rfl | ⟨h0, off, e⟩)
    · rcases hk with h | h <;> omega
    · rcases hk with h | h <;> omega
    · obtain ⟨b', off', e', h, -⟩ := hRlt.out.at (k := 0) h0
      rw [e] at e'; cases e'
      rcases hk with rfl | rfl <;> omega
  case hI1 =>
    rintro pre s M1 a₁ Wa Wb ⟨hI, bs, hbs, hMb, hne', hne2, rfl⟩ hag
    exact ⟨hI.agree hag (by omega) (by omega), bs, hbs.agree hag (.inl hMb), hMb, hne', hne2, rfl⟩
  case hassign =>
    intro l pre s rest M1 Wa hxs hI hszA
    gi_wp2_with fail
    have hu := Upd.alloc (fun k hk => (hI.fit k hk).1) (W := Wa) (M := M1) (.cells (stepC s) 126)
    refine ⟨_, ⟨(hI.agree (Agree.of_below (bAlloc (bSelf Wa) (.cells (stepC s) 126)) hszA) (by omega) (by omega)).more (fun k hk => .inl hk) (fun k hk => ⟨hu.fit k hk, by rcases hk with hk | hk; exact (hI.fit k hk).2; omega⟩), Wa.heap.size, Blk.new _ _ _, .inr rfl, by omega, by omega, rfl⟩, hu⟩
  case hbody =>
    rintro l pre s rest M1 a₁ Wa hxs ⟨hI, bs, hbs, hMb, hne', hne2, rfl⟩ hszA
    simp only [List.setIfInBounds_toArray, List.set_cons_zero, List.set_cons_succ]
    have hlen2 : pre.length < 60 := by
      have h1 := HLEN.out
      rw [hxs] at h1
      simp only [List.length_append, List.length_cons] at h1
      omega
    have hok := HOK.out s (by rw [hxs]; simp)
    have hpre : ∀ s' ∈ pre, StepOk s' := fun s' hs' => HOK.out s' (by rw [hxs]; exact List.mem_append_left _ hs')
    have hst := hok.st
    have HST := Lib.hid hok
    obtain ⟨l0, u0, l1, u1, -, -, -, -⟩ := hst
    have lo := hok.lo
    have hi := hok.hi
    obtain ⟨off0, off1⟩ := OFF.out
    have hc := cmdV_bd x _ _ _ _ hx hok.st
    obtain ⟨c1, c2⟩ := hc
    have s1 := sum_bd (f := stepErr x) pre (fun s' hs' => stepErr_bd hx (hpre s' hs'))
    have s2 := sum_bd (f := stepWide off) pre (fun s' hs' => stepWide_bd off0 off1 (hpre s' hs'))
    obtain ⟨s1a, s1b⟩ := s1
    obtain ⟨s2a, s2b⟩ := s2
    clear hpre hok
    have p1 := mul_bd (a := x.s) (b := cmdV x [gi s.1 0, gi s.1 1, gi s.1 2, gi s.1 3] x.dl.toNat - gi s.1 0) (A := 1000) (B := 18) (by have := hx.s1; omega) hx.s2 (by omega) (by omega)
    obtain ⟨p1a, p1b⟩ := p1
    obtain ⟨wv, hwv⟩ : ∃ wv, stepWay s = wv := ⟨_, rfl⟩
    have hwv' : gi s.2 0 - gi s.1 1 = wv := hwv
    have wa : -200003 ≤ wv := by omega
    have wb : wv ≤ 200003 := by omega
    have p2 := mul_bd (a := x.s * (cmdV x [gi s.1 0, gi s.1 1, gi s.1 2, gi s.1 3] x.dl.toNat - gi s.1 0)) (b := wv) (A := 18000) (B := 200003) (by omega) (by omega) wa wb
    obtain ⟨p2a, p2b⟩ := p2
    have p3 := mul_bd (a := off) (b := wv) (A := 1000) (B := 200003) (by omega) off1 wa wb
    obtain ⟨p3a, p3b⟩ := p3
    have p4 := mul_bd (a := off) (b := -wv) (A := 1000) (B := 200003) (by omega) off1 (by omega) (by omega)
    obtain ⟨p4a, p4b⟩ := p4
    have HWV := Lib.hid hwv'
    have HWS := Lib.hid hwv
    have HSS := Lib.hid (show x.s * (cmdV x [gi s.1 0, gi s.1 1, gi s.1 2, gi s.1 3] x.dl.toNat - gi s.1 0) * wv = stepErr x s by rw [← hwv]; unfold stepErr; rw [← four s.1 HST.out.len])
    clear hwv hwv'
    have HBS := Lib.hid hbs
    obtain ⟨-, kb, -⟩ := hbs
    have HI := Lib.hid hI
    clear hI
    have HMB := Lib.hid hMb
    clear hMb hxs
    gi_wp2_with fail
    rw [HWV.out]
    clear kb
    refine wpIn_region_quiet_tail 15 (fun w' => Below (World.heap Wa).size (Wa) w') (by kernel_rfl) (by kernel_rfl) (by kernel_rfl) (by rintro ⟨_, _, h⟩; exact h) (Below.refl _ _).drew ?_
    simp only [List.take_succ_cons, List.take_zero, List.drop_succ_cons, List.drop_zero]
    repeat (first | (refine wpQuiet_no (by rfl) ?_; (simp only [Act.put, List.setIfInBounds_toArray, List.set_cons_zero, List.set_cons_succ])) | (refine wpQuiet_yes (by rfl) ?_; apply Exists.intro; refine ⟨fun w1 hb1 => ?_, ?_⟩; (focus (((obtain ⟨-, q0, -⟩ := HI.out.k0.to hb1; obtain ⟨-, q9, -⟩ := HI.out.k9.to hb1; obtain ⟨-, qs, -⟩ := HI.out.sum.to hb1; obtain ⟨-, qb, -⟩ := HBS.out.to hb1); have hb1 := Lib.hid hb1; go_simp); (try (go_bits; try go_simp)); (first | done | (((go_at_call 78); refine (actuators_any x _ _ _ _ _ hx HST.out.st).mono ?_; rintro e w' ⟨rfl, hb⟩; exact ⟨rfl, bThen hb1.out hb⟩)) | (with_reducible rfl) | exact rfl))); (simp only [Act.put, List.setIfInBounds_toArray, List.set_cons_zero, List.set_cons_succ])))
    refine wpQuiet_nil ?_
    intro w1 hb1
    obtain ⟨-, qs, qsf⟩ := HI.out.sum.to hb1
    obtain ⟨-, qw, qwf⟩ := HI.out.wide.to hb1
    obtain ⟨-, qo, -⟩ := HI.out.k1.to hb1
    have hb1 := Lib.hid hb1
    go_wp2_with fail
    gi_wp2_with fail
    all_goals
      refine ⟨M1, HI.out.next hb1.out hsz2 hsz3' (by rw [sumE_snoc, ← HSS.out]) ?_⟩
      rw [sumE_snoc]
      have e1 : 0 ≤ wv → stepWide off s = off * wv := fun h => by unfold stepWide sizeI; rw [HWS.out]; congr 1; omega
      have e2 : wv ≤ 0 → stepWide off s = -(off * wv) := fun h => by unfold stepWide sizeI; rw [HWS.out, ← Int.mul_neg]; congr 1; omega
      try rw [Int.mul_neg]
      have g1 : wrap64 (off * wv) = off * wv := IntWalk.wrap64_in _ (by omega)
      have g2 : wrap64 (-(off * wv)) = -(off * wv) := IntWalk.wrap64_in _ (by omega)
      first | rw [g2] | rw [g1]
      clear g1 g2
      rw [IntWalk.wrap64_in _ (by omega)]
      generalize stepWide off s = sw at *
      generalize off * wv = ow at *
      generalize sumE (stepWide off) pre = so at *
      omega
  case hdone =>
    intro D M1 Wd hD hMD hI hdef
    have s1 := sum_bd (f := stepErr x) (stepsL x [0, 0, 0, 0] zs) (fun s' hs' => stepErr_bd hx (HOK.out s' hs'))
    have s2 := sum_bd (f := stepWide off) (stepsL x [0, 0, 0, 0] zs) (fun s' hs' => stepWide_bd OFF.out.1 OFF.out.2 (HOK.out s' hs'))
    have hl := HLEN.out
    obtain ⟨s1a, s1b⟩ := s1
    obtain ⟨s2a, s2b⟩ := s2
    obtain ⟨-, qs, -⟩ := hI.sum
    obtain ⟨-, qw, -⟩ := hI.wide
    obtain ⟨-, qr, qrf⟩ := hI.k2
    have HI := Lib.hid hI
    have HD := Lib.hid hdef
    clear hI hdef
    gi_wp2_with fail
    refine ⟨by simp, .inl ⟨_, _, rfl, run_takeDeferred ?hdef, ?_⟩⟩
    case hdef =>
      have : w.heap.size + 2 < D := by omega
      rw [Below.heap_setCell _ _ _ _ (by dsimp only; omega), Below.heap_setCell _ _ _ _ (by dsimp only; omega)]
      exact HD.out
    have F := ((HI.out.k2.set 0 (.int .i64 (sumE (stepErr x) (stepsL x [0, 0, 0, 0] zs) - sumE (stepWide off) (stepsL x [0, 0, 0, 0] zs)))).set 1 (.int .i64 (sumE (stepErr x) (stepsL x [0, 0, 0, 0] zs) + sumE (stepWide off) (stepsL x [0, 0, 0, 0] zs)))).agree (B := W3.heap.size) (M := fun _ => False) (Agree.putObj _ D (.deferred none) hD (fun h => h)) (.inr (by omega))
    have F0 := F.2.1 0
    have F1 := F.2.1 1
    have HF := Lib.hid F
    clear F qs qw qr qrf
    refine ⟨.tuple #[.agg #[.int .i64 (sumE (stepErr x) (stepsL x [0, 0, 0, 0] zs) - sumE (stepWide off) (stepsL x [0, 0, 0, 0] zs)), .int .i64 (sumE (stepErr x) (stepsL x [0, 0, 0, 0] zs) + sumE (stepWide off) (stepsL x [0, 0, 0, 0] zs))], .int .i64 0], ?_, rfl, ?_⟩
    · simp [results, Try.results13, go_sem, F0, F1]
    · exact (((HI.out.below.setCell (p := ⟨w.heap.size + 2, 0, none⟩) (by dsimp only; omega) _).setCell (p := ⟨w.heap.size + 2, 1, none⟩) (by dsimp only; omega) _)).trans ((Below.refl _ _).grown (grownBy_putObj' _ D _) (by have := HI.out.below.size; simp [World.setCell]; omega) (fun k e => by cases e; omega))

end Go.Proofs.Ytjieojkfpoiabaa

