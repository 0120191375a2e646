/-
  Texts of this claim, in their build order: A5 Lib2.
-/
import Derived.Test.YtfdlhhinomjakaaHel2
import Derived.Test.YtfdlhhinomjakaaHel1
import Derived.Lib.Hide
import Derived.Laws.CopyOwn
import Derived.Test.YtfdlhhinomjakaaHel0

namespace Go.Proofs.Ytfdlhhinomjakaa
section
set_option maxRecDepth 100000
set_option maxHeartbeats 400000
open Go.RowKit

theorem mul_bd {a b A B : Int} (h1 : -A ≤ a) (h2 : a ≤ A) (h3 : -B ≤ b) (h4 : b ≤ B) : -(A * B) ≤ a * b ∧ a * b ≤ A * B := by
  have hA : 0 ≤ A := by omega
  have hB : 0 ≤ B := by omega
  have e : (a * b).natAbs ≤ (A * B).natAbs := by
    rw [Int.natAbs_mul, Int.natAbs_mul]
    exact Nat.mul_le_mul (by omega) (by omega)
  have h5 : 0 ≤ A * B := Int.mul_nonneg hA hB
  omega

theorem floor_eq (n m : Int) (hm : 0 < m) : (if n.tmod m < 0 then n.tdiv m - 1 else n.tdiv m) = n / m := by
  have h1 := Int.mul_tdiv_add_tmod n m
  have h2 := Int.tmod_lt_of_pos n hm
  have h3 := Int.lt_tmod_of_pos n hm
  have h4 := Int.mul_ediv_add_emod n m
  have h5 := Int.emod_nonneg n (by omega : m ≠ 0)
  have h6 := Int.emod_lt_of_pos n hm
  generalize n.tdiv m = q at *
  generalize n.tmod m = r at *
  generalize n / m = q' at *
  generalize n % m = r' at *
  split
  · rename_i h
    have : m * (q - 1 - q') = r' - (r + m) := by rw [Int.mul_sub, Int.mul_sub]; omega
    have h7 : q - 1 - q' = 0 := by
      rcases Int.lt_trichotomy (q - 1 - q') 0 with h8 | h8 | h8
      · have : m * (q - 1 - q') ≤ m * (-1) := Int.mul_le_mul_of_nonneg_left (by omega) (by omega)
        omega
      · exact h8
      · have : m * 1 ≤ m * (q - 1 - q') := Int.mul_le_mul_of_nonneg_left (by omega) (by omega)
        omega
    omega
  · rename_i h
    have : m * (q - q') = r' - r := by rw [Int.mul_sub]; omega
    have h7 : q - q' = 0 := by
      rcases Int.lt_trichotomy (q - q') 0 with h8 | h8 | h8
      · have : m * (q - q') ≤ m * (-1) := Int.mul_le_mul_of_nonneg_left (by omega) (by omega)
        omega
      · exact h8
      · have : m * 1 ≤ m * (q - q') := Int.mul_le_mul_of_nonneg_left (by omega) (by omega)
        omega
    omega

theorem tdiv_bd (n m : Int) (h1 : -1000000000000000000 ≤ n) (h2 : n ≤ 1000000000000000000) : -1000000000000000000 ≤ n.tdiv m ∧ n.tdiv m ≤ 1000000000000000000 := by
  have : (n.tdiv m).natAbs ≤ n.natAbs := by
    rw [Int.natAbs_tdiv]; exact Nat.div_le_self _ _
  omega

theorem floor_any (n m : Int) (w : World) (hm : 0 < m) (h1 : -1000000000000000000 ≤ n) (h2 : n ≤ 1000000000000000000) (_h3 : m ≤ 1000000000000000000) :
    Calls Try.prog 62 #[.int .i64 n, .int .i64 m] w fun e w' => e = .returned (.int .i64 (n / m)) ∧ w = w' := by
  have hq := tdiv_bd n m h1 h2
  obtain ⟨hq1, hq2⟩ := hq
  have HF := zH (floor_eq n m hm)
  go_enter Try.func62, Try.ntmps62
  go_wp2
  · have h : n.tmod m < 0 := by assumption
    go_ret
    exact ⟨ret_int (by rw [← HF.out, if_pos h]), rfl⟩
  · have h : 0 ≤ n.tmod m := by assumption
    go_ret
    exact ⟨ret_int (by rw [← HF.out, if_neg (by omega)]), rfl⟩

/-- A number without its sign. -/
def sizeI (n : Int) : Int := max n (-n)
theorem Size_any (n : Int) (w : World) (h1 : -9000000000000000000 ≤ n) (h2 : n ≤ 9000000000000000000) :
    Calls Try.prog 18 #[.int .i64 n] w fun e w' => e = .returned (.int .i64 (sizeI n)) ∧ w = w' := by
  go_enter Try.func18, Try.ntmps18
  go_wp2
  all_goals (go_ret; exact ⟨ret_int (by unfold sizeI; omega), rfl⟩)

/-- The command of the step so many steps ago, of a state as a list. -/
def cmdV (x : HT) (a : List Int) (g : Nat) : Int := if x.cp then gi a g + x.dl * (gi a g - gi a (g + 1)) else gi a g

/-- What the walks know of a state of four numbers. -/
structure St (a0 a1 a2 a3 : Int) : Prop where
  l0 : -3 ≤ a0
  u0 : a0 ≤ 3
  l1 : -3 ≤ a1
  u1 : a1 ≤ 3
  l2 : -3 ≤ a2
  u2 : a2 ≤ 3
  l3 : -3 ≤ a3
  u3 : a3 ≤ 3

theorem hcommand0 (x : HT) (a0 a1 a2 a3 : Int) (w : World) (hx : x.ok) (hs : St a0 a1 a2 a3) :
    Calls Try.prog 65 #[.agg x.cells, .agg #[.int .i64 a0, .int .i64 a1, .int .i64 a2, .int .i64 a3], .int .i64 0] w fun e w' => e = .returned (.int .i64 (cmdV x [a0, a1, a2, a3] 0)) ∧ Below w.heap.size w w' := by
  have hp := mul_bd (a := x.dl) (b := a0 - a1) (A := 2) (B := 6) (by have := hx.dl1; omega) hx.dl2 (by have := hs.l0; have := hs.u1; omega) (by have := hs.u0; have := hs.l1; omega)
  obtain ⟨hp1, hp2⟩ := hp
  have hw : IntKind.i64.wrap (x.dl * (a0 - a1)) = x.dl * (a0 - a1) := IntWalk.i64_in _ (by omega)
  have hw0 : IntKind.i64.wrap (a0 - a1) = a0 - a1 := IntWalk.i64_in _ (by have := hs.l0; have := hs.u1; have := hs.u0; have := hs.l1; omega)
  have hw1 : IntKind.i64.wrap (a0 + x.dl * (a0 - a1)) = a0 + x.dl * (a0 - a1) := IntWalk.i64_in _ (by have := hs.l0; have := hs.u0; omega)
  cases hc : x.cp with
  | false =>
    go_enter Try.func65, Try.ntmps65
    go_wp2
    go_ret
    exact ⟨ret_int (by simp [cmdV, hc, gi]), ((Below.refl _ _).alloc (Nat.le_refl _) _).alloc (by simp) _⟩
  | true =>
    go_enter Try.func65, Try.ntmps65
    go_wp2_with fail
    refine wp_region_quiet_all (fun w' => Below (w.heap.size + 2) ((w.alloc (.cells x.cells 68)).alloc (.cells #[.int .i64 a0, .int .i64 a1, .int .i64 a2, .int .i64 a3] 72)) w') (by kernel_rfl) (by kernel_rfl) (Below.refl _ _).drew ?_
    repeat (first | (refine wpQuiet_no (by rfl) ?_; (simp only [Act.put, zzT, zzO, zzS])) | (refine wpQuiet_yes (by rfl) ?_; apply Exists.intro; refine ⟨fun w1 hb1 => ?_, ?_⟩; (focus ((have hcf := bcell hb1; obtain ⟨hc1, hf1⟩ := hcf; have hb1 := zH hb1; go_simp); (try (go_bits; try go_simp)); (first | done | (with_reducible rfl) | exact rfl))); (simp only [Act.put, zzT, zzO, zzS])))
    refine wpQuiet_nil ?_
    intro w1 hb1
    have hcf := bcell hb1
    obtain ⟨hc1, hf1⟩ := hcf
    have hb1 := zH hb1
    go_wp2_with fail
    go_ret
    exact ⟨ret_int (by simp [cmdV, hc, gi]), (((Below.refl _ _).alloc (Nat.le_refl _) _).alloc (by simp) _).trans (hb1.out.mono (by omega))⟩

theorem hcommand1 (x : HT) (a0 a1 a2 a3 : Int) (w : World) (hx : x.ok) (hs : St a0 a1 a2 a3) :
    Calls Try.prog 65 #[.agg x.cells, .agg #[.int .i64 a0, .int .i64 a1, .int .i64 a2, .int .i64 a3], .int .i64 1] w fun e w' => e = .returned (.int .i64 (cmdV x [a0, a1, a2, a3] 1)) ∧ Below w.heap.size w w' := by
  have hp := mul_bd (a := x.dl) (b := a1 - a2) (A := 2) (B := 6) (by have := hx.dl1; omega) hx.dl2 (by have := hs.l1; have := hs.u2; omega) (by have := hs.u1; have := hs.l2; omega)
  obtain ⟨hp1, hp2⟩ := hp
  have hw : IntKind.i64.wrap (x.dl * (a1 - a2)) = x.dl * (a1 - a2) := IntWalk.i64_in _ (by omega)
  have hw0 : IntKind.i64.wrap (a1 - a2) = a1 - a2 := IntWalk.i64_in _ (by have := hs.l1; have := hs.u2; have := hs.u1; have := hs.l2; omega)
  have hw1 : IntKind.i64.wrap (a1 + x.dl * (a1 - a2)) = a1 + x.dl * (a1 - a2) := IntWalk.i64_in _ (by have := hs.l1; have := hs.u1; omega)
  cases hc : x.cp with
  | false =>
    go_enter Try.func65, Try.ntmps65
    go_wp2
    go_ret
    exact ⟨ret_int (by simp [cmdV, hc, gi]), ((Below.refl _ _).alloc (Nat.le_refl _) _).alloc (by simp) _⟩
  | true =>
    go_enter Try.func65, Try.ntmps65
    go_wp2_with fail
    refine wp_region_quiet_all (fun w' => Below (w.heap.size + 2) ((w.alloc (.cells x.cells 68)).alloc (.cells #[.int .i64 a0, .int .i64 a1, .int .i64 a2, .int .i64 a3] 72)) w') (by kernel_rfl) (by kernel_rfl) (Below.refl _ _).drew ?_
    repeat (first | (refine wpQuiet_no (by rfl) ?_; (simp only [Act.put, zzT, zzO, zzS])) | (refine wpQuiet_yes (by rfl) ?_; apply Exists.intro; refine ⟨fun w1 hb1 => ?_, ?_⟩; (focus ((have hcf := bcell hb1; obtain ⟨hc1, hf1⟩ := hcf; have hb1 := zH hb1; go_simp); (try (go_bits; try go_simp)); (first | done | (with_reducible rfl) | exact rfl))); (simp only [Act.put, zzT, zzO, zzS])))
    refine wpQuiet_nil ?_
    intro w1 hb1
    have hcf := bcell hb1
    obtain ⟨hc1, hf1⟩ := hcf
    have hb1 := zH hb1
    go_wp2_with fail
    go_ret
    exact ⟨ret_int (by simp [cmdV, hc, gi]), (((Below.refl _ _).alloc (Nat.le_refl _) _).alloc (by simp) _).trans (hb1.out.mono (by omega))⟩

theorem hcommand2 (x : HT) (a0 a1 a2 a3 : Int) (w : World) (hx : x.ok) (hs : St a0 a1 a2 a3) :
    Calls Try.prog 65 #[.agg x.cells, .agg #[.int .i64 a0, .int .i64 a1, .int .i64 a2, .int .i64 a3], .int .i64 2] w fun e w' => e = .returned (.int .i64 (cmdV x [a0, a1, a2, a3] 2)) ∧ Below w.heap.size w w' := by
  have hp := mul_bd (a := x.dl) (b := a2 - a3) (A := 2) (B := 6) (by have := hx.dl1; omega) hx.dl2 (by have := hs.l2; have := hs.u3; omega) (by have := hs.u2; have := hs.l3; omega)
  obtain ⟨hp1, hp2⟩ := hp
  have hw : IntKind.i64.wrap (x.dl * (a2 - a3)) = x.dl * (a2 - a3) := IntWalk.i64_in _ (by omega)
  have hw0 : IntKind.i64.wrap (a2 - a3) = a2 - a3 := IntWalk.i64_in _ (by have := hs.l2; have := hs.u3; have := hs.u2; have := hs.l3; omega)
  have hw1 : IntKind.i64.wrap (a2 + x.dl * (a2 - a3)) = a2 + x.dl * (a2 - a3) := IntWalk.i64_in _ (by have := hs.l2; have := hs.u2; omega)
  cases hc : x.cp with
  | false =>
    go_enter Try.func65, Try.ntmps65
    go_wp2
    go_ret
    exact ⟨ret_int (by simp [cmdV, hc, gi]), ((Below.refl _ _).alloc (Nat.le_refl _) _).alloc (by simp) _⟩
  | true =>
    go_enter Try.func65, Try.ntmps65
    go_wp2_with fail
    refine wp_region_quiet_all (fun w' => Below (w.heap.size + 2) ((w.alloc (.cells x.cells 68)).alloc (.cells #[.int .i64 a0, .int .i64 a1, .int .i64 a2, .int .i64 a3] 72)) w') (by kernel_rfl) (by kernel_rfl) (Below.refl _ _).drew ?_
    repeat (first | (refine wpQuiet_no (by rfl) ?_; (simp only [Act.put, zzT, zzO, zzS])) | (refine wpQuiet_yes (by rfl) ?_; apply Exists.intro; refine ⟨fun w1 hb1 => ?_, ?_⟩; (focus ((have hcf := bcell hb1; obtain ⟨hc1, hf1⟩ := hcf; have hb1 := zH hb1; go_simp); (try (go_bits; try go_simp)); (first | done | (with_reducible rfl) | exact rfl))); (simp only [Act.put, zzT, zzO, zzS])))
    refine wpQuiet_nil ?_
    intro w1 hb1
    have hcf := bcell hb1
    obtain ⟨hc1, hf1⟩ := hcf
    have hb1 := zH hb1
    go_wp2_with fail
    go_ret
    exact ⟨ret_int (by simp [cmdV, hc, gi]), (((Below.refl _ _).alloc (Nat.le_refl _) _).alloc (by simp) _).trans (hb1.out.mono (by omega))⟩

theorem hcommand_any (x : HT) (a0 a1 a2 a3 g : Int) (w : World) (hx : x.ok) (hs : St a0 a1 a2 a3) (hg : g = 0 ∨ g = 1 ∨ g = 2) :
    Calls Try.prog 65 #[.agg x.cells, .agg #[.int .i64 a0, .int .i64 a1, .int .i64 a2, .int .i64 a3], .int .i64 g] w fun e w' => e = .returned (.int .i64 (cmdV x [a0, a1, a2, a3] g.toNat)) ∧ Below w.heap.size w w' := by
  rcases hg with rfl | rfl | rfl
  · exact hcommand0 x a0 a1 a2 a3 w hx hs
  · exact hcommand1 x a0 a1 a2 a3 w hx hs
  · exact hcommand2 x a0 a1 a2 a3 w hx hs

theorem HT.ok.dl012 {x : HT} (hx : x.ok) : x.dl = 0 ∨ x.dl = 1 ∨ x.dl = 2 := by have := hx.dl1; have := hx.dl2; omega

theorem actuators_any (x : HT) (a0 a1 a2 a3 : Int) (w : World) (hx : x.ok) (hs : St a0 a1 a2 a3) :
    Calls Try.prog 47 #[.agg x.cells, .agg #[.int .i64 a0, .int .i64 a1, .int .i64 a2, .int .i64 a3]] w fun e w' => e = .returned (.int .i64 (cmdV x [a0, a1, a2, a3] x.dl.toNat)) ∧ Below w.heap.size w w' := by
  go_enter Try.func47, Try.ntmps47
  go_wp2_with fail
  refine (hcommand_any x a0 a1 a2 a3 _ _ hx hs hx.dl012).mono ?_
  rintro e w' ⟨rfl, hb⟩
  have hb := zH hb
  go_wp2_with fail
  go_ret
  exact ⟨ret_int rfl, (((Below.refl _ _).alloc (Nat.le_refl _) _).alloc (by simp) _).trans (hb.out.mono (by simp; omega))⟩
end
section
open Go.RowKit

/-- Block b holds these cells, none of them frozen. -/
def Blk (w : World) (b : Nat) (cs : Array Value) : Prop :=
  b < w.heap.size ∧ (∀ o, w.cell? ⟨b, o, none⟩ = cs[o]?) ∧ (∀ o, w.frozen? ⟨b, o, none⟩ = false)

theorem Blk.below {B : Nat} {w w' : World} {b : Nat} {cs : Array Value} (h : Blk w b cs) (hb : Below B w w') (hB : b < B) : Blk w' b cs :=
  ⟨Nat.lt_of_lt_of_le h.1 hb.size, fun o => (hb.cell (p := ⟨b, o, none⟩) hB).trans (h.2.1 o), fun o => (hb.frozen (p := ⟨b, o, none⟩) hB).trans (h.2.2 o)⟩
theorem Blk.to {w w' : World} {b : Nat} {cs : Array Value} (h : Blk w b cs) (hb : Below w.heap.size w w') : Blk w' b cs := h.below hb h.1
theorem Blk.alloc {w : World} {b : Nat} {cs : Array Value} (h : Blk w b cs) (o : Obj) : Blk (w.alloc o) b cs := h.to ((Below.refl _ _).alloc (Nat.le_refl _) _)
theorem Blk.drew {w : World} {b : Nat} {cs : Array Value} (h : Blk w b cs) : Blk w.drew b cs := h
theorem Blk.new (w : World) (cs : Array Value) (T : TypeId) : Blk (w.alloc (.cells cs T)) w.heap.size cs :=
  have hh : (w.alloc (.cells cs T)).heap[w.heap.size]? = some (.cells cs T (0, 0)) := by
    show (w.heap.push _)[w.heap.size]? = _
    simp
  ⟨by simp, fun o => by unfold World.cell?; simp only [hh]; rfl, fun o => by unfold World.frozen?; simp only [hh]; simp⟩
theorem Blk.newAt (w : World) (cs : Array Value) (T : TypeId) {B : Nat} (h : w.heap.size = B) : Blk (w.alloc (.cells cs T)) B cs := by subst h; exact Blk.new w cs T
theorem Blk.other {w : World} {b : Nat} {cs : Array Value} (h : Blk w b cs) {p : Addr} (hp : p.block ≠ b) (v : Value) : Blk (w.setCell p v) b cs :=
  ⟨by simpa [World.setCell] using h.1, fun o => by rw [World.cell?_setCell_other _ _ _ _ (by intro e; rw [e] at hp; exact hp rfl)]; exact h.2.1 o, fun o => by rw [World.frozen?_setCell]; exact h.2.2 o⟩
theorem Blk.set {w : World} {b : Nat} {cs : Array Value} (h : Blk w b cs) (i : Nat) (v : Value) : Blk (w.setCell ⟨b, i, none⟩ v) b (cs.setIfInBounds i v) := by
  refine ⟨by simpa [World.setCell] using h.1, fun o => ?_, fun o => by rw [World.frozen?_setCell]; exact h.2.2 o⟩
  by_cases ho : o = i
  · subst ho
    by_cases hi : o < cs.size
    · have h1 : w.cell? ⟨b, o, none⟩ = some cs[o] := by rw [h.2.1 o]; simp [hi]
      rw [World.cell?_setCell_same _ _ _ h1]; simp [hi]
    · have h1 := h.2.1 o
      rw [Array.getElem?_eq_none (by omega)] at h1
      rw [Array.getElem?_eq_none (by simpa using hi)]
      unfold World.cell? at *
      simp only [World.setCell, Array.getElem?_modify, if_true] at *
      cases hh : w.heap[b]? with
      | none => simp
      | some ob =>
        rw [hh] at h1
        cases ob <;> simp_all
  · rw [World.cell?_setCell_other _ _ _ _ (by intro e; cases e; exact ho rfl), h.2.1 o, Array.getElem?_setIfInBounds_ne (by omega)]

theorem bAlloc {w W : World} (h : Below w.heap.size w W) (o : Obj) : Below w.heap.size w (W.alloc o) := h.alloc h.size o
theorem bThen {w W W' : World} (h : Below w.heap.size w W) (h' : Below W.heap.size W W') : Below w.heap.size w W' := h.trans (h'.mono h.size)
theorem bSelf (w : World) : Below w.heap.size w w := Below.refl _ _
end
end Go.Proofs.Ytfdlhhinomjakaa
