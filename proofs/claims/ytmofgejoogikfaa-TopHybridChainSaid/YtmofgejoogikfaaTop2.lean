/-
  Texts of this claim, in their build order: A3 A5 Lib2.
-/
import Derived.Test.YtmofgejoogikfaaTop1
import Derived.Lib.Hide
import Derived.Laws.CopyOwn

/-
  each, at whole numbers; forcesErr and its reference.
-/
namespace Go.Proofs.Ytmofgejoogikfaa
open Go.RowKit

set_option maxHeartbeats 400000 in
theorem each_int (zs : List Int) (a : Option Addr) (cap fid : Nat) (q : Addr) (w : World) (err : Nat → Int) (I : Nat → World → Prop) (hlen : zs.length ≤ maxLen)
    (hcf : ∀ args w, Sem.run Try.prog (callFunc fid args) w = .ok (.enter fid args) w)
    (h0 : I 0 w) (hrd : ∀ k w', k < zs.length → I k w' → Reads w' a zs.length (ints zs))
    (hst : ∀ k w', k < zs.length → I k w' → Calls Try.prog fid #[.int .i64 k, .int .i64 (gi zs k), .pointer (some q)] w' fun e w'' => e = .returned (.int .i64 (err k)) ∧ I (k + 1) w'') :
    Calls Try.prog 123 #[.slice a zs.length cap, .func (.func fid) #[] #[.pointer (some q)]] w
      fun e w' => e = .returned (.tuple #[.int .i64 (eachR err 0 zs.length).1, .int .i64 (eachR err 0 zs.length).2]) ∧ ∃ k, k ≤ zs.length ∧ I k w' := by
  unfold maxLen at hlen
  have HRD := Lib.hid hrd
  have HST := Lib.hid hst
  have H0 := Lib.hid h0
  clear hrd hst h0
  go_enter Try.func123, Try.ntmps123
  go_wp2_with fail
  go_loopw [6, 7, 8, 11] (fun _ _ _ i wr => ∃ k : Nat, k ≤ zs.length ∧ i = .int .i64 k ∧ Hid (eachR err 0 zs.length = eachR err k (zs.length - k)) ∧ Hid (I k wr)) (fun _ _ _ i _ => zs.length - (intOf i).toNat)
  case atStart => exact ⟨0, Nat.zero_le _, rfl, Lib.hid rfl, H0⟩
  case round =>
    obtain ⟨k, hk, rfl, hr, hI⟩ := hrel
    by_cases hlt : k < zs.length
    · obtain ⟨b, off, rfl, hb, hc⟩ := (HRD.out k _ hlt hI.out).at hlt
      have h1 : wr.cell? ⟨b, off + k, none⟩ = some (.int .i64 (gi zs k)) := hc k hlt
      clear hc
      by_cases hz : err k = 0
      · have hz' : (err k != 0) = false := by simpa using hz
        have HZ := Lib.hid hz
        clear hz
        go_wp2_with fail
        refine (HST.out k _ hlt hI.out).mono ?_
        rintro e w' ⟨rfl, hI'⟩
        have hI' := Lib.hid hI'
        go_wp2_with fail
        go_roundw
        case rel => exact ⟨k + 1, by omega, by go_num, hr.out.trans (eachR_step hlt HZ.out), hI'⟩
        case measure => simp [intOf]; omega
      · have hz' : (err k != 0) = true := by simpa using hz
        have HZ := Lib.hid hz
        clear hz
        go_wp2_with fail
        refine (HST.out k _ hlt hI.out).mono ?_
        rintro e w' ⟨rfl, hI'⟩
        have hI' := Lib.hid hI'
        go_wp2_with fail
        go_ret2
        exact ⟨by rw [hr.out, eachR_stop hlt HZ.out]; rfl, k + 1, by omega, hI'⟩
    · have : k = zs.length := by omega
      subst this
      go_wp2
      go_ret2
      exact ⟨by rw [hr.out, Nat.sub_self]; rfl, zs.length, Nat.le_refl _, hI⟩

theorem forcesErr1_any (x : HT) (n k : Int) (p : Nat) (w : World)
    (hlo : w.cell? ⟨p, 7, none⟩ = some (.int .i64 x.lo)) (hhi : w.cell? ⟨p, 8, none⟩ = some (.int .i64 x.hi)) :
    Calls Try.prog 127 #[.int .i64 k, .int .i64 n, .pointer (some ⟨p, 0, none⟩)] w fun e w' => e = .returned (.int .i64 (unl (decide (x.lo ≤ n) && decide (n ≤ x.hi)) 2)) ∧ w = w' := by
  go_enter Try.func127, Try.ntmps127
  go_wp2_with (first | (go_at_call 94; refine (within_any _ _ _ _).mono ?_; rintro e w' ⟨rfl, rfl⟩) | (go_at_call 67; refine (unless_any _ _ _).mono ?_; rintro e w' ⟨rfl, rfl⟩))
  go_ret
  exact ⟨rfl, rfl⟩

/-- The error of a force, and of forces. -/
def forceE (x : HT) (zs : List Int) (k : Nat) : Int := unl (decide (x.lo ≤ gi zs k) && decide (gi zs k ≤ x.hi)) 2
def forcesE (x : HT) (zs : List Int) : Int := firstE [unl (decide ((zs.length : Int) ≤ 60)) 8, (eachR (forceE x zs) 0 zs.length).2]

set_option maxHeartbeats 400000 in
theorem forcesErr_any (x : HT) (zs : List Int) (a : Option Addr) (cap : Nat) (w : World) (hlen : zs.length ≤ maxLen) (hr : Reads w a zs.length (ints zs)) :
    Calls Try.prog 95 #[.agg x.cells, .slice a zs.length cap] w fun e w' => e = .returned (.int .i64 (forcesE x zs)) ∧ Below w.heap.size w w' := by
  have HL := Lib.hid hlen
  unfold maxLen at hlen
  have hR := Lib.hid hr
  clear hr
  go_enter Try.func95, Try.ntmps95
  go_wp2_with fail
  refine (each_int zs a cap 127 _ _ (forceE x zs) (fun _ w' => w' = w.alloc (.cells x.cells 70)) HL.out (by intro args w; go_simp) rfl (fun k w' hk hw => by subst hw; exact hR.out.alloc _) (fun k w' hk hw => by
    subst hw
    refine (forcesErr1_any x _ _ _ _ (by simp [World.cell?_alloc_new]) (by simp [World.cell?_alloc_new])).mono ?_
    rintro e w' ⟨rfl, rfl⟩
    exact ⟨rfl, rfl⟩)).mono ?_
  rintro e w' ⟨rfl, k, hk, rfl⟩
  go_wp2_with (first | (go_at_call 67; refine (unless_any _ _ _).mono ?_; rintro e w' ⟨rfl, rfl⟩))
  refine (first2_new _ _ _ _ (by simp)).mono ?_; rintro e w' ⟨rfl, rfl⟩
  go_wp2_with fail
  go_ret
  exact ⟨rfl, ((Below.refl _ _).alloc (Nat.le_refl _) _).alloc (by simp) _⟩

end Go.Proofs.Ytmofgejoogikfaa

/-
  Quotients, sizes; the command of a step and where the actuators are, in package hybrid and in the reference.
-/
namespace Go.Proofs.Ytmofgejoogikfaa
open Go.RowKit

theorem mul_bd {a b A B : Int} (h1 : -A ≤ a) (h2 : a ≤ A) (h3 : -B ≤ b) (h4 : b ≤ B) : -(A * B) ≤ a * b ∧ a * b ≤ A * B := by
  have hA : 0 ≤ A := by omega
  have hB : 0 ≤ B := by omega
  have e : (a * b).natAbs ≤ (A * B).natAbs := by
    rw [Int.natAbs_mul, Int.natAbs_mul]
    exact Nat.mul_le_mul (by omega) (by omega)
  have h5 : 0 ≤ A * B := Int.mul_nonneg hA hB
  omega

theorem floor_eq (n m : Int) (hm : 0 < m) : (if n.tmod m < 0 then n.tdiv m - 1 else n.tdiv m) = n / m := by
  have h1 := Int.mul_tdiv_add_tmod n m
  have h2 := Int.tmod_lt_of_pos n hm
  have h3 := Int.lt_tmod_of_pos n hm
  have h4 := Int.mul_ediv_add_emod n m
  have h5 := Int.emod_nonneg n (by omega : m ≠ 0)
  have h6 := Int.emod_lt_of_pos n hm
  generalize n.tdiv m = q at *
  generalize n.tmod m = r at *
  generalize n / m = q' at *
  generalize n % m = r' at *
  split
  · rename_i h
    have : m * (q - 1 - q') = r' - (r + m) := by rw [Int.mul_sub, Int.mul_sub]; omega
    have h7 : q - 1 - q' = 0 := by
      rcases Int.lt_trichotomy (q - 1 - q') 0 with h8 | h8 | h8
      · have : m * (q - 1 - q') ≤ m * (-1) := Int.mul_le_mul_of_nonneg_left (by omega) (by omega)
        omega
      · exact h8
      · have : m * 1 ≤ m * (q - 1 - q') := Int.mul_le_mul_of_nonneg_left (by omega) (by omega)
        omega
    omega
  · rename_i h
    have : m * (q - q') = r' - r := by rw [Int.mul_sub]; omega
    have h7 : q - q' = 0 := by
      rcases Int.lt_trichotomy (q - q') 0 with h8 | h8 | h8
      · have : m * (q - q') ≤ m * (-1) := Int.mul_le_mul_of_nonneg_left (by omega) (by omega)
        omega
      · exact h8
      · have : m * 1 ≤ m * (q - q') := Int.mul_le_mul_of_nonneg_left (by omega) (by omega)
        omega
    omega

theorem tdiv_bd (n m : Int) (h1 : -1000000000000000000 ≤ n) (h2 : n ≤ 1000000000000000000) : -1000000000000000000 ≤ n.tdiv m ∧ n.tdiv m ≤ 1000000000000000000 := by
  have : (n.tdiv m).natAbs ≤ n.natAbs := by
    rw [Int.natAbs_tdiv]; exact Nat.div_le_self _ _
  omega

set_option maxHeartbeats 400000 in
theorem floor_any (n m : Int) (w : World) (hm : 0 < m) (h1 : -1000000000000000000 ≤ n) (h2 : n ≤ 1000000000000000000) (_h3 : m ≤ 1000000000000000000) :
    Calls Try.prog 126 #[.int .i64 n, .int .i64 m] w fun e w' => e = .returned (.int .i64 (n / m)) ∧ w = w' := by
  have hq := tdiv_bd n m h1 h2
  obtain ⟨hq1, hq2⟩ := hq
  have HF := Lib.hid (floor_eq n m hm)
  go_enter Try.func126, Try.ntmps126
  go_wp2
  · have h : n.tmod m < 0 := by assumption
    go_ret
    exact ⟨ret_int (by rw [← HF.out, if_pos h]), rfl⟩
  · have h : 0 ≤ n.tmod m := by assumption
    go_ret
    exact ⟨ret_int (by rw [← HF.out, if_neg (by omega)]), rfl⟩

/-- A number without its sign. -/
def sizeI (n : Int) : Int := max n (-n)
theorem Size_any (n : Int) (w : World) (h1 : -9000000000000000000 ≤ n) (h2 : n ≤ 9000000000000000000) :
    Calls Try.prog 37 #[.int .i64 n] w fun e w' => e = .returned (.int .i64 (sizeI n)) ∧ w = w' := by
  go_enter Try.func37, Try.ntmps37
  go_wp2
  all_goals (go_ret; exact ⟨ret_int (by unfold sizeI; omega), rfl⟩)

/-- The command of the step so many steps ago, of a state as a list. -/
def cmdV (x : HT) (a : List Int) (g : Nat) : Int := if x.cp then gi a g + x.dl * (gi a g - gi a (g + 1)) else gi a g

/-- What the walks know of a state of four numbers. -/
structure St (a0 a1 a2 a3 : Int) : Prop where
  l0 : -3 ≤ a0
  u0 : a0 ≤ 3
  l1 : -3 ≤ a1
  u1 : a1 ≤ 3
  l2 : -3 ≤ a2
  u2 : a2 ≤ 3
  l3 : -3 ≤ a3
  u3 : a3 ≤ 3

set_option maxHeartbeats 400000 in
set_option maxRecDepth 100000 in
theorem hcommand0 (x : HT) (a0 a1 a2 a3 : Int) (w : World) (hx : x.ok) (hs : St a0 a1 a2 a3) :
    Calls Try.prog 138 #[.agg x.cells, .agg #[.int .i64 a0, .int .i64 a1, .int .i64 a2, .int .i64 a3], .int .i64 0] w fun e w' => e = .returned (.int .i64 (cmdV x [a0, a1, a2, a3] 0)) ∧ Below w.heap.size w w' := by
  have hp := mul_bd (a := x.dl) (b := a0 - a1) (A := 2) (B := 6) (by have := hx.dl1; omega) hx.dl2 (by have := hs.l0; have := hs.u1; omega) (by have := hs.u0; have := hs.l1; omega)
  obtain ⟨hp1, hp2⟩ := hp
  have hw : IntKind.i64.wrap (x.dl * (a0 - a1)) = x.dl * (a0 - a1) := IntWalk.i64_in _ (by omega)
  have hw0 : IntKind.i64.wrap (a0 - a1) = a0 - a1 := IntWalk.i64_in _ (by have := hs.l0; have := hs.u1; have := hs.u0; have := hs.l1; omega)
  have hw1 : IntKind.i64.wrap (a0 + x.dl * (a0 - a1)) = a0 + x.dl * (a0 - a1) := IntWalk.i64_in _ (by have := hs.l0; have := hs.u0; omega)
  cases hc : x.cp with
  | false =>
    go_enter Try.func138, Try.ntmps138
    go_wp2
    go_ret
    exact ⟨ret_int (by simp [cmdV, hc, gi]), ((Below.refl _ _).alloc (Nat.le_refl _) _).alloc (by simp) _⟩
  | true =>
    go_enter Try.func138, Try.ntmps138
    go_wp2_with fail
    refine wp_region_quiet_all (fun w' => Below (w.heap.size + 2) ((w.alloc (.cells x.cells 127)).alloc (.cells #[.int .i64 a0, .int .i64 a1, .int .i64 a2, .int .i64 a3] 131)) w') (by kernel_rfl) (by kernel_rfl) (Below.refl _ _).drew ?_
    repeat (first | (refine wpQuiet_no (by rfl) ?_; (simp only [Act.put, List.setIfInBounds_toArray, List.set_cons_zero, List.set_cons_succ])) | (refine wpQuiet_yes (by rfl) ?_; apply Exists.intro; refine ⟨fun w1 hb1 => ?_, ?_⟩; (focus ((have hcf := bcell hb1; obtain ⟨hc1, hf1⟩ := hcf; have hb1 := Lib.hid hb1; go_simp); (try (go_bits; try go_simp)); (first | done | (fail) | (with_reducible rfl) | exact rfl))); (simp only [Act.put, List.setIfInBounds_toArray, List.set_cons_zero, List.set_cons_succ])))
    refine wpQuiet_nil ?_
    intro w1 hb1
    have hcf := bcell hb1
    obtain ⟨hc1, hf1⟩ := hcf
    have hb1 := Lib.hid hb1
    go_wp2_with fail
    go_ret
    exact ⟨ret_int (by simp [cmdV, hc, gi]), (((Below.refl _ _).alloc (Nat.le_refl _) _).alloc (by simp) _).trans (hb1.out.mono (by omega))⟩

set_option maxHeartbeats 400000 in
set_option maxRecDepth 100000 in
theorem hcommand1 (x : HT) (a0 a1 a2 a3 : Int) (w : World) (hx : x.ok) (hs : St a0 a1 a2 a3) :
    Calls Try.prog 138 #[.agg x.cells, .agg #[.int .i64 a0, .int .i64 a1, .int .i64 a2, .int .i64 a3], .int .i64 1] w fun e w' => e = .returned (.int .i64 (cmdV x [a0, a1, a2, a3] 1)) ∧ Below w.heap.size w w' := by
  have hp := mul_bd (a := x.dl) (b := a1 - a2) (A := 2) (B := 6) (by have := hx.dl1; omega) hx.dl2 (by have := hs.l1; have := hs.u2; omega) (by have := hs.u1; have := hs.l2; omega)
  obtain ⟨hp1, hp2⟩ := hp
  have hw : IntKind.i64.wrap (x.dl * (a1 - a2)) = x.dl * (a1 - a2) := IntWalk.i64_in _ (by omega)
  have hw0 : IntKind.i64.wrap (a1 - a2) = a1 - a2 := IntWalk.i64_in _ (by have := hs.l1; have := hs.u2; have := hs.u1; have := hs.l2; omega)
  have hw1 : IntKind.i64.wrap (a1 + x.dl * (a1 - a2)) = a1 + x.dl * (a1 - a2) := IntWalk.i64_in _ (by have := hs.l1; have := hs.u1; omega)
  cases hc : x.cp with
  | false =>
    go_enter Try.func138, Try.ntmps138
    go_wp2
    go_ret
    exact ⟨ret_int (by simp [cmdV, hc, gi]), ((Below.refl _ _).alloc (Nat.le_refl _) _).alloc (by simp) _⟩
  | true =>
    go_enter Try.func138, Try.ntmps138
    go_wp2_with fail
    refine wp_region_quiet_all (fun w' => Below (w.heap.size + 2) ((w.alloc (.cells x.cells 127)).alloc (.cells #[.int .i64 a0, .int .i64 a1, .int .i64 a2, .int .i64 a3] 131)) w') (by kernel_rfl) (by kernel_rfl) (Below.refl _ _).drew ?_
    repeat (first | (refine wpQuiet_no (by rfl) ?_; (simp only [Act.put, List.setIfInBounds_toArray, List.set_cons_zero, List.set_cons_succ])) | (refine wpQuiet_yes (by rfl) ?_; apply Exists.intro; refine ⟨fun w1 hb1 => ?_, ?_⟩; (focus ((have hcf := bcell hb1; obtain ⟨hc1, hf1⟩ := hcf; have hb1 := Lib.hid hb1; go_simp); (try (go_bits; try go_simp)); (first | done | (fail) | (with_reducible rfl) | exact rfl))); (simp only [Act.put, List.setIfInBounds_toArray, List.set_cons_zero, List.set_cons_succ])))
    refine wpQuiet_nil ?_
    intro w1 hb1
    have hcf := bcell hb1
    obtain ⟨hc1, hf1⟩ := hcf
    have hb1 := Lib.hid hb1
    go_wp2_with fail
    go_ret
    exact ⟨ret_int (by simp [cmdV, hc, gi]), (((Below.refl _ _).alloc (Nat.le_refl _) _).alloc (by simp) _).trans (hb1.out.mono (by omega))⟩

set_option maxHeartbeats 400000 in
set_option maxRecDepth 100000 in
theorem hcommand2 (x : HT) (a0 a1 a2 a3 : Int) (w : World) (hx : x.ok) (hs : St a0 a1 a2 a3) :
    Calls Try.prog 138 #[.agg x.cells, .agg #[.int .i64 a0, .int .i64 a1, .int .i64 a2, .int .i64 a3], .int .i64 2] w fun e w' => e = .returned (.int .i64 (cmdV x [a0, a1, a2, a3] 2)) ∧ Below w.heap.size w w' := by
  have hp := mul_bd (a := x.dl) (b := a2 - a3) (A := 2) (B := 6) (by have := hx.dl1; omega) hx.dl2 (by have := hs.l2; have := hs.u3; omega) (by have := hs.u2; have := hs.l3; omega)
  obtain ⟨hp1, hp2⟩ := hp
  have hw : IntKind.i64.wrap (x.dl * (a2 - a3)) = x.dl * (a2 - a3) := IntWalk.i64_in _ (by omega)
  have hw0 : IntKind.i64.wrap (a2 - a3) = a2 - a3 := IntWalk.i64_in _ (by have := hs.l2; have := hs.u3; have := hs.u2; have := hs.l3; omega)
  have hw1 : IntKind.i64.wrap (a2 + x.dl * (a2 - a3)) = a2 + x.dl * (a2 - a3) := IntWalk.i64_in _ (by have := hs.l2; have := hs.u2; omega)
  cases hc : x.cp with
  | false =>
    go_enter Try.func138, Try.ntmps138
    go_wp2
    go_ret
    exact ⟨ret_int (by simp [cmdV, hc, gi]), ((Below.refl _ _).alloc (Nat.le_refl _) _).alloc (by simp) _⟩
  | true =>
    go_enter Try.func138, Try.ntmps138
    go_wp2_with fail
    refine wp_region_quiet_all (fun w' => Below (w.heap.size + 2) ((w.alloc (.cells x.cells 127)).alloc (.cells #[.int .i64 a0, .int .i64 a1, .int .i64 a2, .int .i64 a3] 131)) w') (by kernel_rfl) (by kernel_rfl) (Below.refl _ _).drew ?_
    repeat (first | (refine wpQuiet_no (by rfl) ?_; (simp only [Act.put, List.setIfInBounds_toArray, List.set_cons_zero, List.set_cons_succ])) | (refine wpQuiet_yes (by rfl) ?_; apply Exists.intro; refine ⟨fun w1 hb1 => ?_, ?_⟩; (focus ((have hcf := bcell hb1; obtain ⟨hc1, hf1⟩ := hcf; have hb1 := Lib.hid hb1; go_simp); (try (go_bits; try go_simp)); (first | done | (fail) | (with_reducible rfl) | exact rfl))); (simp only [Act.put, List.setIfInBounds_toArray, List.set_cons_zero, List.set_cons_succ])))
    refine wpQuiet_nil ?_
    intro w1 hb1
    have hcf := bcell hb1
    obtain ⟨hc1, hf1⟩ := hcf
    have hb1 := Lib.hid hb1
    go_wp2_with fail
    go_ret
    exact ⟨ret_int (by simp [cmdV, hc, gi]), (((Below.refl _ _).alloc (Nat.le_refl _) _).alloc (by simp) _).trans (hb1.out.mono (by omega))⟩

theorem hcommand_any (x : HT) (a0 a1 a2 a3 g : Int) (w : World) (hx : x.ok) (hs : St a0 a1 a2 a3) (hg : g = 0 ∨ g = 1 ∨ g = 2) :
    Calls Try.prog 138 #[.agg x.cells, .agg #[.int .i64 a0, .int .i64 a1, .int .i64 a2, .int .i64 a3], .int .i64 g] w fun e w' => e = .returned (.int .i64 (cmdV x [a0, a1, a2, a3] g.toNat)) ∧ Below w.heap.size w w' := by
  rcases hg with rfl | rfl | rfl
  · exact hcommand0 x a0 a1 a2 a3 w hx hs
  · exact hcommand1 x a0 a1 a2 a3 w hx hs
  · exact hcommand2 x a0 a1 a2 a3 w hx hs

theorem HT.ok.dl012 {x : HT} (hx : x.ok) : x.dl = 0 ∨ x.dl = 1 ∨ x.dl = 2 := by have := hx.dl1; have := hx.dl2; omega

set_option maxHeartbeats 400000 in
set_option maxRecDepth 100000 in
theorem actuators_any (x : HT) (a0 a1 a2 a3 : Int) (w : World) (hx : x.ok) (hs : St a0 a1 a2 a3) :
    Calls Try.prog 114 #[.agg x.cells, .agg #[.int .i64 a0, .int .i64 a1, .int .i64 a2, .int .i64 a3]] w fun e w' => e = .returned (.int .i64 (cmdV x [a0, a1, a2, a3] x.dl.toNat)) ∧ Below w.heap.size w w' := by
  go_enter Try.func114, Try.ntmps114
  go_wp2_with fail
  refine (hcommand_any x a0 a1 a2 a3 _ _ hx hs hx.dl012).mono ?_
  rintro e w' ⟨rfl, hb⟩
  have hb := Lib.hid hb
  go_wp2_with fail
  go_ret
  exact ⟨ret_int rfl, (((Below.refl _ _).alloc (Nat.le_refl _) _).alloc (by simp) _).trans (hb.out.mono (by simp; omega))⟩

end Go.Proofs.Ytmofgejoogikfaa

/-
  More general lemmas of our own: a block known whole.
-/
namespace Go.Proofs.Ytmofgejoogikfaa
open Go.RowKit

/-- Block b holds these cells, none of them frozen. -/
def Blk (w : World) (b : Nat) (cs : Array Value) : Prop :=
  b < w.heap.size ∧ (∀ o, w.cell? ⟨b, o, none⟩ = cs[o]?) ∧ (∀ o, w.frozen? ⟨b, o, none⟩ = false)

theorem Blk.below {B : Nat} {w w' : World} {b : Nat} {cs : Array Value} (h : Blk w b cs) (hb : Below B w w') (hB : b < B) : Blk w' b cs :=
  ⟨Nat.lt_of_lt_of_le h.1 hb.size, fun o => (hb.cell (p := ⟨b, o, none⟩) hB).trans (h.2.1 o), fun o => (hb.frozen (p := ⟨b, o, none⟩) hB).trans (h.2.2 o)⟩
theorem Blk.to {w w' : World} {b : Nat} {cs : Array Value} (h : Blk w b cs) (hb : Below w.heap.size w w') : Blk w' b cs := h.below hb h.1
theorem Blk.alloc {w : World} {b : Nat} {cs : Array Value} (h : Blk w b cs) (o : Obj) : Blk (w.alloc o) b cs := h.to ((Below.refl _ _).alloc (Nat.le_refl _) _)
theorem Blk.drew {w : World} {b : Nat} {cs : Array Value} (h : Blk w b cs) : Blk w.drew b cs := h
theorem Blk.new (w : World) (cs : Array Value) (T : TypeId) : Blk (w.alloc (.cells cs T)) w.heap.size cs :=
  have hh : (w.alloc (.cells cs T)).heap[w.heap.size]? = some (.cells cs T (0, 0)) := by
    show (w.heap.push _)[w.heap.size]? = _
    simp
  ⟨by simp, fun o => by unfold World.cell?; simp only [hh]; rfl, fun o => by unfold World.frozen?; simp only [hh]; simp⟩
theorem Blk.newAt (w : World) (cs : Array Value) (T : TypeId) {B : Nat} (h : w.heap.size = B) : Blk (w.alloc (.cells cs T)) B cs := by subst h; exact Blk.new w cs T
theorem Blk.other {w : World} {b : Nat} {cs : Array Value} (h : Blk w b cs) {p : Addr} (hp : p.block ≠ b) (v : Value) : Blk (w.setCell p v) b cs :=
  ⟨by simpa [World.setCell] using h.1, fun o => by rw [World.cell?_setCell_other _ _ _ _ (by intro e; rw [e] at hp; exact hp rfl)]; exact h.2.1 o, fun o => by rw [World.frozen?_setCell]; exact h.2.2 o⟩
theorem Blk.set {w : World} {b : Nat} {cs : Array Value} (h : Blk w b cs) (i : Nat) (v : Value) : Blk (w.setCell ⟨b, i, none⟩ v) b (cs.setIfInBounds i v) := by
  refine ⟨by simpa [World.setCell] using h.1, fun o => ?_, fun o => by rw [World.frozen?_setCell]; exact h.2.2 o⟩
  by_cases ho : o = i
  · subst ho
    by_cases hi : o < cs.size
    · have h1 : w.cell? ⟨b, o, none⟩ = some cs[o] := by rw [h.2.1 o]; simp [hi]
      rw [World.cell?_setCell_same _ _ _ h1]; simp [hi]
    · have h1 := h.2.1 o
      rw [Array.getElem?_eq_none (by omega)] at h1
      rw [Array.getElem?_eq_none (by simpa using hi)]
      unfold World.cell? at *
      simp only [World.setCell, Array.getElem?_modify, if_true] at *
      cases hh : w.heap[b]? with
      | none => simp
      | some ob =>
        rw [hh] at h1
        cases ob <;> simp_all
  · rw [World.cell?_setCell_other _ _ _ _ (by intro e; cases e; exact ho rfl), h.2.1 o, Array.getElem?_setIfInBounds_ne (by omega)]

theorem bAlloc {w W : World} (h : Below w.heap.size w W) (o : Obj) : Below w.heap.size w (W.alloc o) := h.alloc h.size o
theorem bThen {w W W' : World} (h : Below w.heap.size w W) (h' : Below W.heap.size W W') : Below w.heap.size w W' := h.trans (h'.mono h.size)
theorem bSelf (w : World) : Below w.heap.size w w := Below.refl _ _

end Go.Proofs.Ytmofgejoogikfaa

