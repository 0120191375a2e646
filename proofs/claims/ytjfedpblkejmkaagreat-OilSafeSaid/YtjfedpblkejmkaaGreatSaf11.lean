/-
  Texts of this claim, in their build order: OA1 OP3.
-/
import Derived.Test.YtjfedpblkejmkaaGreatSaf10
import Derived.Test.YtjfedpblkejmkaaGreatSaf6
import Derived.Outline

/-
  Contracts of the small functions of package oil.
-/
namespace Go.Proofs.YtjfedpblkejmkaaGreat
open Go.RowKit

theorem oWithin_any (n lo hi : Int) (w : World) :
    Calls Tryz.prog 99 #[.int .i64 n, .int .i64 lo, .int .i64 hi] w fun e w' => e = .returned (.bool (decide (lo ≤ n) && decide (n ≤ hi))) ∧ w = w' := by
  go_enter Tryz.func99, Tryz.ntmps99
  go_wp2
  all_goals (go_ret; exact ⟨ret_bool (by simp; omega), rfl⟩)

theorem oUnless_any (b : Bool) (k : Int) (w : World) :
    Calls Tryz.prog 94 #[.bool b, .int .i64 k] w fun e w' => e = .returned (.int .i64 (unl b k)) ∧ w = w' := by
  go_enter Tryz.func94, Tryz.ntmps94
  cases b
  all_goals (go_wp2; go_ret; exact ⟨rfl, rfl⟩)

set_option maxHeartbeats 400000 in
theorem oFirst_any (es : List Int) (b off cap : Nat) (w : World) (hl : es.length ≤ 1000)
    (hc : ∀ i, i < es.length → w.cell? ⟨b, off + i, none⟩ = some (.int .i64 (gi es i))) :
    Calls Tryz.prog 92 #[.slice (some ⟨b, off, none⟩) es.length cap] w fun e w' => e = .returned (.int .i64 (firstE es)) ∧ w = w' := by
  go_enter Tryz.func92, Tryz.ntmps92
  have HC := Lib.hid hc
  clear hc
  go_wp2_with fail
  go_loop [4, 7] (fun _ i => ∃ k : Nat, k ≤ es.length ∧ i = .int .i64 k ∧ Hid (firstE es = firstE (es.drop k))) (fun _ i => es.length - (intOf i).toNat)
  case atStart => exact ⟨0, Nat.zero_le _, rfl, rfl⟩
  case round =>
    obtain ⟨k, hk, rfl, hr⟩ := hrel
    by_cases hlt : k < es.length
    · have h1 := HC.out k hlt
      have hd := Lib.hid (firstE_drop es k hlt)
      by_cases hz : gi es k = 0
      · have hz' : (gi es k != 0) = false := by simpa using hz
        have HZ := Lib.hid hz
        clear hz
        go_wp2
        go_round
        case rel => exact ⟨k + 1, by omega, by go_num, hr.out.trans (by rw [hd.out, if_pos HZ.out])⟩
        case measure => simp [intOf]; omega
      · have hz' : (gi es k != 0) = true := by simpa using hz
        have HZ := Lib.hid hz
        clear hz
        go_wp2
        go_ret
        exact ⟨ret_int (by rw [hr.out, hd.out, if_neg HZ.out]), rfl⟩
    · have : k = es.length := by omega
      subst this
      go_wp2
      go_ret
      exact ⟨ret_int (by rw [hr.out, List.drop_length]; rfl), rfl⟩

theorem oFirst2_new (a b : Int) (w : World) (B : Nat) (hB : w.heap.size = B) :
    Calls Tryz.prog 92 #[.slice (some ⟨B, 0, none⟩) 2 2] (w.alloc (.cells #[.int .i64 a, .int .i64 b] 29)) fun e w' => e = .returned (.int .i64 (firstE [a, b])) ∧ w.alloc (.cells #[.int .i64 a, .int .i64 b] 29) = w' :=
  oFirst_any [a, b] _ 0 2 _ (by simp) (fun i hi => by
    match i, hi with
    | 0, _ => subst hB; simp [World.cell?_alloc_new, gi]
    | 1, _ => subst hB; simp [World.cell?_alloc_new, gi])

theorem oFirst3_new (a b c : Int) (w : World) (B : Nat) (hB : w.heap.size = B) :
    Calls Tryz.prog 92 #[.slice (some ⟨B, 0, none⟩) 3 3] (w.alloc (.cells #[.int .i64 a, .int .i64 b, .int .i64 c] 29)) fun e w' => e = .returned (.int .i64 (firstE [a, b, c])) ∧ w.alloc (.cells #[.int .i64 a, .int .i64 b, .int .i64 c] 29) = w' :=
  oFirst_any [a, b, c] _ 0 3 _ (by simp) (fun i hi => by
    match i, hi with
    | 0, _ => subst hB; simp [World.cell?_alloc_new, gi]
    | 1, _ => subst hB; simp [World.cell?_alloc_new, gi]
    | 2, _ => subst hB; simp [World.cell?_alloc_new, gi])

def wthn (n lo hi : Int) : Bool := decide (lo ≤ n) && decide (n ≤ hi)
theorem isPressure_any (n : Int) (w : World) : Calls Tryz.prog 135 #[.int .i64 n] w fun e w' => e = .returned (.bool (wthn n 0 1000)) ∧ w = w' := by
  go_enter Tryz.func135, Tryz.ntmps135
  go_wp2_with (go_at_call 99; refine (oWithin_any _ _ _ _).mono ?_; rintro e w' ⟨rfl, rfl⟩)
  go_ret
  exact ⟨rfl, rfl⟩
theorem isFlow_any (n : Int) (w : World) : Calls Tryz.prog 108 #[.int .i64 n] w fun e w' => e = .returned (.bool (wthn n 0 50)) ∧ w = w' := by
  go_enter Tryz.func108, Tryz.ntmps108
  go_wp2_with (go_at_call 99; refine (oWithin_any _ _ _ _).mono ?_; rintro e w' ⟨rfl, rfl⟩)
  go_ret
  exact ⟨rfl, rfl⟩
theorem isVolume_any (n : Int) (w : World) : Calls Tryz.prog 134 #[.int .i64 n] w fun e w' => e = .returned (.bool (wthn n 0 200)) ∧ w = w' := by
  go_enter Tryz.func134, Tryz.ntmps134
  go_wp2_with (go_at_call 99; refine (oWithin_any _ _ _ _).mono ?_; rintro e w' ⟨rfl, rfl⟩)
  go_ret
  exact ⟨rfl, rfl⟩
/-- The error of a number of points. -/
def fewE (n : Int) : Int := firstE [unl (decide (2 ≤ n)) 10, unl (decide (n ≤ 8)) 8]
theorem oFew_any (n : Int) (w : World) : Calls Tryz.prog 111 #[.int .i64 n] w fun e w' => e = .returned (.int .i64 (fewE n)) ∧ Below w.heap.size w w' := by
  have HF : Hid (firstE [unl (decide (2 ≤ n)) 10, unl (decide (n ≤ 8)) 8] = fewE n) := Lib.hid rfl
  go_enter Tryz.func111, Tryz.ntmps111
  go_wp2_with (first | (go_at_call 94; refine (oUnless_any _ _ _).mono ?_; rintro e w' ⟨rfl, rfl⟩) | (go_at_call 92; refine (oFirst2_new _ _ _ _ rfl).mono ?_; rintro e w' ⟨rfl, rfl⟩; rw [HF.out]))
  go_ret
  exact ⟨rfl, bAlloc (bSelf w) _⟩

/-- Numbers whose products fit. -/
def Nin (n : Int) : Prop := -1000000000 ≤ n ∧ n ≤ 1000000000
theorem Nin.mul {a b : Int} (ha : Nin a) (hb : Nin b) : -1000000000000000000 ≤ a * b ∧ a * b ≤ 1000000000000000000 :=
  mul_bd ha.1 ha.2 hb.1 hb.2
set_option maxHeartbeats 400000 in
theorem oLess_any (a b : Int × Int) (w : World) (h1 : Nin a.1) (h2 : Nin a.2) (h3 : Nin b.1) (h4 : Nin b.2) :
    Calls Tryz.prog 101 #[.agg #[.int .i64 a.1, .int .i64 a.2], .agg #[.int .i64 b.1, .int .i64 b.2]] w fun e w' => e = .returned (.bool (lessQ a b)) ∧ Below w.heap.size w w' := by
  obtain ⟨m1, m2⟩ := h1.mul h4
  obtain ⟨m3, m4⟩ := h3.mul h2
  obtain ⟨a1, a2⟩ := a
  obtain ⟨b1, b2⟩ := b
  dsimp only at m1 m2 m3 m4 ⊢
  clear h1 h2 h3 h4
  go_enter Tryz.func101, Tryz.ntmps101
  go_wp2_with fail
  go_ret
  exact ⟨rfl, bAlloc (bAlloc (bSelf w) _) _⟩
set_option maxHeartbeats 400000 in
theorem oBelow_any (a : Int × Int) (n : Int) (w : World) (h1 : Nin a.1) (h2 : Nin a.2) (h3 : Nin n) :
    Calls Tryz.prog 100 #[.agg #[.int .i64 a.1, .int .i64 a.2], .int .i64 n] w fun e w' => e = .returned (.bool (lessQ a (n, 1))) ∧ Below w.heap.size w w' := by
  have HL := Lib.hid (fun W => oLess_any a (n, 1) W h1 h2 h3 (show Nin 1 from ⟨by decide, by decide⟩))
  obtain ⟨a1, a2⟩ := a
  dsimp only at HL ⊢
  clear h1 h2 h3
  go_enter Tryz.func100, Tryz.ntmps100
  go_wp2_with fail
  refine (HL.out _).mono ?_
  rintro e w1 ⟨rfl, hb⟩
  go_wp2_with fail
  go_ret
  exact ⟨rfl, bThen (bAlloc (bSelf w) _) hb⟩

/-- A quotient whose parts are not below 0. -/
structure QOk (a : Int × Int) : Prop where
  n0 : 0 ≤ a.1
  n1 : a.1 ≤ 1000000000
  d0 : 1 ≤ a.2
  d1 : a.2 ≤ 1000000000
theorem gcd_step' {x y : Int} : Int.gcd y (x % y) = Int.gcd x y := by
  have h := Int.gcd_add_mul_left_right y (x % y) (x / y)
  rw [show x % y + y * (x / y) = x by have := Int.mul_ediv_add_emod x y; omega] at h
  rw [← h, Int.gcd_comm]

set_option maxHeartbeats 1600000 in
set_option maxRecDepth 100000 in
theorem oFrac_any (a : Int × Int) (w : World) (h : QOk a) :
    Calls Tryz.prog 97 #[.agg #[.int .i64 a.1, .int .i64 a.2]] w fun e w' => e = .returned (.agg #[.int .i64 (fr a.1 a.2).1, .int .i64 (fr a.1 a.2).2]) ∧ Below w.heap.size w w' := by
  obtain ⟨n0, n1, d0, d1⟩ := h
  obtain ⟨n, d⟩ := a
  dsimp only at n0 n1 d0 d1 ⊢
  have h1 := @fr_bd1 n d 1000000000 (by omega)
  have h2 := @fr_bd2 n d 1000000000 (by omega)
  have hg0 : 0 < Int.gcd n d := Nat.pos_of_ne_zero (fun h => by have := (Int.gcd_eq_zero_iff.1 h).2; omega)
  have h3 : (fr n d).1 = n / (Int.gcd n d : Nat) := by rw [fr_ediv]
  have h4 : (fr n d).2 = d / (Int.gcd n d : Nat) := by rw [fr_ediv]
  obtain ⟨f1, hf1⟩ : ∃ f, (fr n d).1 = f := ⟨_, rfl⟩
  obtain ⟨f2, hf2⟩ : ∃ f, (fr n d).2 = f := ⟨_, rfl⟩
  rw [hf1] at h1 h3
  rw [hf2] at h2 h4
  rw [hf1, hf2]
  have H3 := Lib.hid h3
  have H4 := Lib.hid h4
  clear h3 h4 hf1 hf2
  have hr0 := Int.emod_nonneg n (show d ≠ 0 by omega)
  have hr1 := Int.emod_lt_of_pos n (show 0 < d by omega)
  have hd0 : (d == 0) = false := by rw [beq_eq_false_iff_ne]; omega
  have hd2 : ¬ d = 0 := by omega
  go_enter Tryz.func97, Tryz.ntmps97
  go_wp2_with fail
  obtain ⟨W, hW⟩ : ∃ W, (w.alloc (.cells #[.int .i64 n, .int .i64 d] 160)).alloc (.cells #[.int .i64 0, .int .i64 0] 28) = W := ⟨_, rfl⟩
  rw [hW]
  have K0 : Hid (Blk W w.heap.size #[.int .i64 n, .int .i64 d]) := by subst hW; exact Lib.hid ((Blk.new _ _ _).alloc _)
  have K1 : Hid (Blk W (w.heap.size + 1) #[.int .i64 0, .int .i64 0]) := by subst hW; exact Lib.hid (Blk.newAt _ _ _ (by simp))
  have HB : Hid (Below w.heap.size w W) := by subst hW; exact Lib.hid (bAlloc (bAlloc (bSelf w) _) _)
  clear hW
  refine wp_region_quiet_all (fun w' => Below (World.heap W).size (W) w') (by kernel_rfl) (by kernel_rfl) (Below.refl _ _).drew ?_
  refine WQ.out ?_
  repeat (first | (refine WQ_no (by rfl) ?_; (simp only [Act.put, List.setIfInBounds_toArray, List.set_cons_zero, List.set_cons_succ])) | (refine WQ_yes (by rfl) ?_; apply Exists.intro; refine ⟨fun w1 hb1 => ?_, ?_⟩; (focus (((obtain ⟨-, k0, -⟩ := K0.out.to hb1); have hb1 := Lib.hid hb1; go_simp); (try (go_bits; try go_simp)); (try (rw [if_pos (by omega)]; try go_simp)); (first | done | (fail) | (with_reducible rfl) | exact rfl))); (simp only [Act.put, List.setIfInBounds_toArray, List.set_cons_zero, List.set_cons_succ])))
  refine WQ_nil ?_
  intro w1 hb1
  replace K0 := Lib.hid (K0.out.to hb1)
  replace K1 := Lib.hid (K1.out.to hb1)
  replace HB := Lib.hid (bThen HB.out hb1)
  clear hb1
  go_wp2_with fail
  go_loopw [3, 4] (fun p q wr => ∃ x y : Int, p = .int .i64 x ∧ q = .int .i64 y ∧ Hid (Int.gcd x y = Int.gcd n d) ∧ 0 < x ∧ x ≤ 1000000000 ∧ 0 ≤ y ∧ y ≤ 1000000000 ∧ Hid (Blk wr w.heap.size #[.int .i64 n, .int .i64 d]) ∧ Hid (Blk wr (w.heap.size + 1) #[.int .i64 0, .int .i64 0]) ∧ Hid (Below w.heap.size w wr)) (fun _ q _ => (intOf q).toNat)
  case atStart => exact ⟨d, n % d, rfl, rfl, Lib.hid gcd_step', by omega, by omega, by omega, by omega, K0, K1, HB⟩
  case round =>
    obtain ⟨x, y, rfl, rfl, hg, x0, x1, y0, y1, K0, K1, HB⟩ := hrel
    by_cases h0 : y = 0
    · subst h0
      have hgx : (Int.gcd n d : Nat) = x := by have := hg.out; rw [Int.gcd_zero_right] at this; omega
      rw [hgx] at H3 H4
      have hx0 : (x == 0) = false := by rw [beq_eq_false_iff_ne]; omega
      have hx2 : ¬ x = 0 := by omega
      clear hgx
      go_wp2_with fail
      refine wp_region_quiet_tail 9 (fun w' => Below (World.heap wr).size (wr) w') (by kernel_rfl) (by kernel_rfl) (Below.refl _ _).drew ?_
      simp only [List.take_succ_cons, List.take_zero, List.drop_succ_cons, List.drop_zero]
      refine WQ.out ?_
      repeat (first | (refine WQ_no (by rfl) ?_; (simp only [Act.put, List.setIfInBounds_toArray, List.set_cons_zero, List.set_cons_succ])) | (refine WQ_yes (by rfl) ?_; apply Exists.intro; refine ⟨fun w1 hb1 => ?_, ?_⟩; (focus (((obtain ⟨-, k0, -⟩ := K0.out.to hb1; have e3 := H3.out.symm; have e4 := H4.out.symm); have hb1 := Lib.hid hb1; go_simp); (try (go_bits; try go_simp)); (try (rw [if_pos (by omega)]; try go_simp)); (first | done | (fail) | (with_reducible rfl) | exact rfl))); (simp only [Act.put, List.setIfInBounds_toArray, List.set_cons_zero, List.set_cons_succ])))
      refine WQ_nil ?_
      intro w1 hb1
      replace K1 := Lib.hid (K1.out.to hb1)
      replace HB := Lib.hid (bThen HB.out hb1)
      clear hb1
      obtain ⟨-, k0, f0⟩ := K1.out
      go_wp2_with fail
      have F := (K1.out.set 0 (.int .i64 f1)).set 1 (.int .i64 f2)
      have F0 := F.2.1 0
      have F1 := F.2.1 1
      clear F k0 f0
      refine bodyPost_ret (v := .agg #[.int .i64 f1, .int .i64 f2]) ?_ rfl ⟨rfl, ?_⟩
      · simp [results, Tryz.results97, go_sem, F0, F1]
      · exact (HB.out.setCell (p := ⟨w.heap.size + 1, 0, none⟩) (Nat.le_succ _) _).setCell (p := ⟨w.heap.size + 1, 1, none⟩) (Nat.le_succ _) _
    · have h0' : (y == 0) = false := by simpa using h0
      have hm0 := Int.emod_nonneg x h0
      have hm1 := Int.emod_lt_of_pos x (show 0 < y by omega)
      go_wp2_with fail
      refine wp_region_quiet_all (fun w' => Below (World.heap wr).size (wr) w') (by kernel_rfl) (by kernel_rfl) (Below.refl _ _).drew ?_
      refine WQ.out ?_
      repeat (first | (refine WQ_no (by rfl) ?_; (simp only [Act.put, List.setIfInBounds_toArray, List.set_cons_zero, List.set_cons_succ])) | (refine WQ_yes (by rfl) ?_; apply Exists.intro; refine ⟨fun w1 hb1 => ?_, ?_⟩; (focus ((skip; have hb1 := Lib.hid hb1; go_simp); (try (go_bits; try go_simp)); (try (rw [if_pos (by omega)]; try go_simp)); (first | done | (fail) | (with_reducible rfl) | exact rfl))); (simp only [Act.put, List.setIfInBounds_toArray, List.set_cons_zero, List.set_cons_succ])))
      refine WQ_nil ?_
      intro w1 hb1
      replace K0 := Lib.hid (K0.out.to hb1)
      replace K1 := Lib.hid (K1.out.to hb1)
      replace HB := Lib.hid (bThen HB.out hb1)
      clear hb1
      go_wp2_with fail
      go_roundw
      case rel => exact ⟨y, x % y, rfl, rfl, Lib.hid (gcd_step'.trans hg.out), by omega, by omega, by omega, by omega, K0, K1, HB⟩
      case measure => simp [intOf]; omega

theorem oFloor_any (a : Int × Int) (w : World) (h : QOk a) :
    Calls Tryz.prog 116 #[.agg #[.int .i64 a.1, .int .i64 a.2]] w fun e w' => e = .returned (.int .i64 (a.1 / a.2)) ∧ Below w.heap.size w w' := by
  obtain ⟨n0, n1, d0, d1⟩ := h
  obtain ⟨n, d⟩ := a
  dsimp only at n0 n1 d0 d1 ⊢
  have hd0 : (d == 0) = false := by rw [beq_eq_false_iff_ne]; omega
  have hd2 : ¬ d = 0 := by omega
  go_enter Tryz.func116, Tryz.ntmps116
  go_wp2_with fail
  go_ret
  exact ⟨rfl, bAlloc (bSelf w) _⟩
theorem oCeil_any (a : Int × Int) (w : World) (h : QOk a) :
    Calls Tryz.prog 117 #[.agg #[.int .i64 a.1, .int .i64 a.2]] w fun e w' => e = .returned (.int .i64 ((a.1 + a.2 - 1) / a.2)) ∧ Below w.heap.size w w' := by
  obtain ⟨n0, n1, d0, d1⟩ := h
  obtain ⟨n, d⟩ := a
  dsimp only at n0 n1 d0 d1 ⊢
  have hd0 : (d == 0) = false := by rw [beq_eq_false_iff_ne]; omega
  have hd2 : ¬ d = 0 := by omega
  go_enter Tryz.func117, Tryz.ntmps117
  go_wp2_with fail
  go_ret
  exact ⟨rfl, bAlloc (bSelf w) _⟩

end Go.Proofs.YtjfedpblkejmkaaGreat

/-
  Plain laws of classes: the states of a class, level by level, with the first demands that lead to each; the reference's sorted sets.
-/
namespace Go.Proofs.YtjfedpblkejmkaaGreat
open Go.RowKit

abbrev OSt := Int × Bool
def ltS (a b : OSt) : Bool := decide (a.1 < b.1) || (a.1 == b.1 && !a.2 && b.2)
theorem ltS_irr (a : OSt) : ltS a a = false := by unfold ltS; cases a.2 <;> simp
theorem ltS_trans {a b c : OSt} (h1 : ltS a b = true) (h2 : ltS b c = true) : ltS a c = true := by
  unfold ltS at *
  simp only [Bool.or_eq_true, Bool.and_eq_true, decide_eq_true_eq, beq_iff_eq, Bool.not_eq_true'] at *
  rcases h1 with h1 | ⟨⟨e1, f1⟩, g1⟩ <;> rcases h2 with h2 | ⟨⟨e2, f2⟩, g2⟩
  · exact .inl (by omega)
  · exact .inl (by omega)
  · exact .inl (by omega)
  · rw [g1] at f2; cases f2
theorem ltS_tri (a b : OSt) : ltS a b = true ∨ a = b ∨ ltS b a = true := by
  obtain ⟨x, r⟩ := a
  obtain ⟨y, t⟩ := b
  unfold ltS
  rcases Int.lt_trichotomy x y with h | h | h
  · exact .inl (by simp [h])
  · subst h
    cases r <;> cases t <;> simp
  · exact .inr (.inr (by simp [h]))
theorem ltS_asym {a b : OSt} (h : ltS a b = true) : ltS b a = false := by
  cases h2 : ltS b a
  · rfl
  · have := ltS_trans h h2
    rw [ltS_irr] at this; cases this
/-- A sorted set of states. -/
def SrtS (l : List OSt) : Prop := l.Pairwise (fun a b => ltS a b = true)
theorem srt_ext : ∀ {l m : List OSt}, SrtS l → SrtS m → (∀ x, x ∈ l ↔ x ∈ m) → l = m
  | [], [], _, _, _ => rfl
  | [], y :: m, _, _, h => by have := (h y).2 (List.mem_cons_self ..); cases this
  | x :: l, [], _, _, h => by have := (h x).1 (List.mem_cons_self ..); cases this
  | x :: l, y :: m, h1, h2, h => by
    have a := List.pairwise_cons.1 h1
    have b := List.pairwise_cons.1 h2
    have e : x = y := by
      rcases List.mem_cons.1 ((h x).1 (List.mem_cons_self ..)) with e | hx
      · exact e
      · rcases List.mem_cons.1 ((h y).2 (List.mem_cons_self ..)) with e | hy
        · exact e.symm
        · have := ltS_asym (b.1 x hx)
          rw [a.1 y hy] at this; cases this
    subst e
    congr 1
    refine srt_ext a.2 b.2 fun z => ?_
    have hz := h z
    rw [List.mem_cons, List.mem_cons] at hz
    constructor
    · intro hm
      rcases hz.1 (.inr hm) with e | e
      · subst e; have := a.1 z hm; rw [ltS_irr] at this; cases this
      · exact e
    · intro hm
      rcases hz.2 (.inr hm) with e | e
      · subst e; have := b.1 z hm; rw [ltS_irr] at this; cases this
      · exact e

/-- A level: the states in the order in which they are found, each with the demands that led to it; what emptied the plant first. -/
structure Tks where
  aft : List (OSt × List Int)
  emp : Option (List Int)
def tkD (p : Plt) (a : OSt × List Int) (s : Tks) (n : Int) : Tks :=
  match nxtA p a.1 n with
  | none => ⟨s.aft, match s.emp with | none => some (a.2 ++ [n]) | some e => some e⟩
  | some t => if s.aft.any (fun x => x.1 == t) then s else ⟨s.aft ++ [(t, a.2 ++ [n])], s.emp⟩
/-- The demands of a range. -/
def rngL (r : Int × Int) : List Int := (List.range (r.2 - r.1 + 1).toNat).map fun (i : Nat) => r.1 + (i : Int)
def tkR (p : Plt) (r : Int × Int) (s : Tks) (a : OSt × List Int) : Tks := (rngL r).foldl (tkD p a) s
def tkL (p : Plt) (r : Int × Int) (now : List (OSt × List Int)) : Tks := now.foldl (tkR p r) ⟨[], none⟩
/-- What the iterator yields. -/
def tks (p : Plt) : List (Int × Int) → List (OSt × List Int) → List (List (OSt × List Int) × Option (List Int))
  | [], now => [(now, none)]
  | r :: rs, now => (now, none) :: (match (tkL p r now).emp with
    | some e => [((tkL p r now).aft, some e)]
    | none => tks p rs (tkL p r now).aft)
def sts (l : List (OSt × List Int)) : List OSt := l.map (·.1)
/-- Is it so that a state follows by a demand of the range? -/
def Fol (p : Plt) (r : Int × Int) (l : List OSt) (t : OSt) : Prop := ∃ s ∈ l, ∃ n ∈ rngL r, nxtA p s n = some t
def Emp (p : Plt) (r : Int × Int) (l : List OSt) : Prop := ∃ s ∈ l, ∃ n ∈ rngL r, nxtA p s n = none
theorem tkD_mem {p : Plt} {a : OSt × List Int} {s : Tks} {n : Int} {t : OSt} : t ∈ sts (tkD p a s n).aft ↔ t ∈ sts s.aft ∨ nxtA p a.1 n = some t := by
  unfold tkD
  cases h : nxtA p a.1 n with
  | none => simp
  | some u =>
    dsimp only
    split
    · rename_i h2
      constructor
      · exact .inl
      · rintro (h3 | h3)
        · exact h3
        · cases h3
          obtain ⟨x, hx, e⟩ := List.any_eq_true.1 h2
          have : x.1 = t := by simpa using e
          exact List.mem_map.2 ⟨x, hx, this⟩
    · unfold sts
      rw [List.map_append, List.mem_append]
      simp [eq_comm]
theorem tkD_emp {p : Plt} {a : OSt × List Int} {s : Tks} {n : Int} : (tkD p a s n).emp = none ↔ s.emp = none ∧ nxtA p a.1 n ≠ none := by
  unfold tkD
  cases h : nxtA p a.1 n with
  | none => cases s.emp <;> simp
  | some u =>
    dsimp only
    split <;> simp
theorem tkD_nodup {p : Plt} {a : OSt × List Int} {s : Tks} {n : Int} (h : (sts s.aft).Nodup) : (sts (tkD p a s n).aft).Nodup := by
  unfold tkD
  cases hn : nxtA p a.1 n with
  | none => exact h
  | some u =>
    dsimp only
    split
    · exact h
    · rename_i h2
      unfold sts at *
      rw [List.map_append, List.nodup_append]
      refine ⟨h, by simp, fun x hx y hy => ?_⟩
      simp only [List.map_cons, List.map_nil, List.mem_singleton] at hy
      subst hy
      rintro rfl
      obtain ⟨z, hz, e⟩ := List.mem_map.1 hx
      exact h2 (List.any_eq_true.2 ⟨z, hz, by rw [e]; simp⟩)
theorem foldD_all {p : Plt} {a : OSt × List Int} : ∀ (l : List Int) (s : Tks),
    (∀ t, t ∈ sts (l.foldl (tkD p a) s).aft ↔ t ∈ sts s.aft ∨ ∃ n ∈ l, nxtA p a.1 n = some t) ∧ ((l.foldl (tkD p a) s).emp = none ↔ s.emp = none ∧ ∀ n ∈ l, nxtA p a.1 n ≠ none) ∧ ((sts s.aft).Nodup → (sts (l.foldl (tkD p a) s).aft).Nodup)
  | [], s => by simp
  | n :: l, s => by
    obtain ⟨h1, h2, h3⟩ := foldD_all l (tkD p a s n)
    rw [List.foldl_cons]
    refine ⟨fun t => ?_, ?_, fun h => h3 (tkD_nodup h)⟩
    · rw [h1, tkD_mem]; simp [or_assoc]
    · rw [h2, tkD_emp]; simp [and_assoc]
theorem foldR_all {p : Plt} {r : Int × Int} : ∀ (now : List (OSt × List Int)) (s : Tks),
    (∀ t, t ∈ sts (now.foldl (tkR p r) s).aft ↔ t ∈ sts s.aft ∨ Fol p r (sts now) t) ∧ ((now.foldl (tkR p r) s).emp = none ↔ s.emp = none ∧ ¬ Emp p r (sts now)) ∧ ((sts s.aft).Nodup → (sts (now.foldl (tkR p r) s).aft).Nodup)
  | [], s => by simp [Fol, Emp, sts]
  | a :: now, s => by
    obtain ⟨h1, h2, h3⟩ := foldR_all now (tkR p r s a)
    obtain ⟨g1, g2, g3⟩ := foldD_all (p := p) (a := a) (rngL r) s
    rw [List.foldl_cons]
    refine ⟨fun t => ?_, ?_, fun h => h3 (g3 h)⟩
    · rw [h1]; unfold tkR; rw [g1]
      unfold Fol sts
      simp only [List.map_cons, List.mem_cons, exists_eq_or_imp, or_assoc]
    · rw [h2]; unfold tkR; rw [g2]
      unfold Emp sts
      simp only [List.map_cons, List.mem_cons, exists_eq_or_imp, not_or, and_assoc]
      constructor
      · rintro ⟨a1, a2, a3⟩
        exact ⟨a1, fun ⟨n, hn, e⟩ => a2 n hn e, a3⟩
      · rintro ⟨a1, a2, a3⟩
        exact ⟨a1, fun n hn e => a2 ⟨n, hn, e⟩, a3⟩

end Go.Proofs.YtjfedpblkejmkaaGreat

