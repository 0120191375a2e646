/-
  The reference's states: Begin, Command, Actuators, Next.
-/
import Derived.Test.YtjieojkfpoiabaaA10
namespace Go.Proofs.Ytjieojkfpoiabaa
open Go.RowKit

/-- A state as the reference has it. -/
structure RSt (x : HT) (st : List Int) : Prop where
  len : (st.length : Int) = x.dl + 2
  bd : ∀ i, -3 ≤ gi st i ∧ gi st i ≤ 3

set_option maxHeartbeats 400000 in
set_option maxRecDepth 100000 in
theorem rCommand_any (x : HT) (st : List Int) (a : Option Addr) (cap g : Nat) (ago : Int) (w : World) (hg : ago = g) (hx : x.ok) (hs : RSt x st) (hg2 : g + 2 ≤ st.length) (hr : Reads w a st.length (ints st)) :
    Calls Try.prog 44 #[.agg x.cells, .slice a st.length cap, .int .i64 ago] w fun e w' => e = .returned (.int .i64 (cmdV x st g)) ∧ Below w.heap.size w w' := by
  subst hg
  have hl1 : (st.length : Int) ≤ 4 := by have := hs.len; have := hx.dl2; omega
  have g1 : g < st.length := by omega
  have g2 : g + 1 < st.length := by omega
  have d1 := hx.dl1
  have d2 := hx.dl2
  obtain ⟨b, off, rfl, hb, hc⟩ := hr.at (k := 0) (by omega)
  have k1 : w.cell? ⟨b, off + g, none⟩ = some (.int .i64 (gi st g)) := hc g (by omega)
  have k2 : w.cell? ⟨b, off + (g + 1), none⟩ = some (.int .i64 (gi st (g + 1))) := hc (g + 1) (by omega)
  have b1 := hs.bd g
  have b2 := hs.bd (g + 1)
  obtain ⟨b1a, b1b⟩ := b1
  obtain ⟨b2a, b2b⟩ := b2
  have hp := mul_bd (a := x.dl) (b := gi st g - gi st (g + 1)) (A := 2) (B := 6) (by omega) d2 (by omega) (by omega)
  obtain ⟨hp1, hp2⟩ := hp
  clear hc hr
  cases hcp : x.cp with
  | false =>
    go_enter Try.func44, Try.ntmps44
    go_wp2
    go_ret
    exact ⟨ret_int (by simp [cmdV, hcp]), (Below.refl _ _).alloc (Nat.le_refl _) _⟩
  | true =>
    go_enter Try.func44, Try.ntmps44
    go_wp2_with fail
    obtain ⟨W, hW⟩ : ∃ W, w.alloc (.cells x.cells 25) = W := ⟨_, rfl⟩
    rw [hW]
    have K0 : Hid (Blk W w.heap.size x.cells) := by subst hW; exact Blk.new _ _ _
    have HB : Hid (Below w.heap.size w W) := by subst hW; exact bAlloc (bSelf w) _
    have q1 : Hid (W.cell? ⟨b, off + g, none⟩ = some (.int .i64 (gi st g))) := by subst hW; exact ((bAlloc (bSelf w) _).cell (p := ⟨b, off + g, none⟩) hb).trans k1
    have q2 : Hid (W.cell? ⟨b, off + (g + 1), none⟩ = some (.int .i64 (gi st (g + 1)))) := by subst hW; exact ((bAlloc (bSelf w) _).cell (p := ⟨b, off + (g + 1), none⟩) hb).trans k2
    have hbW : b < W.heap.size := by subst hW; simp; omega
    clear hW k1 k2
    refine wp_region_quiet_all (fun w' => Below (World.heap W).size (W) w') (by kernel_rfl) (by kernel_rfl) (Below.refl _ _).drew ?_
    repeat (first | (refine wpQuiet_no (by rfl) ?_; (simp only [Act.put, List.setIfInBounds_toArray, List.set_cons_zero, List.set_cons_succ])) | (refine wpQuiet_yes (by rfl) ?_; apply Exists.intro; refine ⟨fun w1 hb1 => ?_, ?_⟩; (focus (((obtain ⟨-, k0, -⟩ := K0.out.to hb1; have k1 := (hb1.cell (p := ⟨b, off + g, none⟩) hbW).trans q1.out; have k2 := (hb1.cell (p := ⟨b, off + (g + 1), none⟩) hbW).trans q2.out); have hb1 := Lib.hid hb1; go_simp); (try (go_bits; try go_simp)); (try (rw [if_pos (by omega)]; try go_simp)); (first | done | (fail) | (with_reducible rfl) | exact rfl))); (simp only [Act.put, List.setIfInBounds_toArray, List.set_cons_zero, List.set_cons_succ])))
    refine wpQuiet_nil ?_
    intro w1 hb1
    go_wp2_with fail
    go_ret
    exact ⟨ret_int (by simp [cmdV, hcp]), bThen HB.out hb1⟩

set_option maxHeartbeats 400000 in
set_option maxRecDepth 100000 in
theorem rActuators_any (x : HT) (st : List Int) (a : Option Addr) (cap : Nat) (w : World) (hx : x.ok) (hs : RSt x st) (hr : Reads w a st.length (ints st)) :
    Calls Try.prog 45 #[.agg x.cells, .slice a st.length cap] w fun e w' => e = .returned (.int .i64 (cmdV x st x.dl.toNat)) ∧ Below w.heap.size w w' := by
  have HR := Lib.hid hr
  clear hr
  go_enter Try.func45, Try.ntmps45
  go_wp2_with fail
  refine (rCommand_any x st a cap x.dl.toNat x.dl _ (by have := hx.dl1; omega) hx hs (by have := hs.len; have := hx.dl1; omega) (HR.out.alloc _)).mono ?_
  rintro e w' ⟨rfl, hb⟩
  have hb := Lib.hid hb
  go_wp2_with fail
  go_ret
  exact ⟨rfl, bThen (bAlloc (bSelf w) _) hb.out⟩

theorem OffErr_any (off : Int) (w : World) :
    Calls Try.prog 18 #[.int .i64 off] w fun e w' => e = .returned (.int .i64 (offE off)) ∧ w = w' := by
  by_cases h : 0 ≤ off ∧ off ≤ 1000
  · have h1 : (decide (0 ≤ off) && decide (off ≤ 1000)) = true := by simpa using h
    have h2 := Lib.hid h
    clear h
    go_enter Try.func18, Try.ntmps18
    go_wp2_with (go_at_call 33; refine (bWithin_any _ _ _ _).mono ?_; rintro e w' ⟨rfl, rfl⟩)
    all_goals (go_ret; exact ⟨ret_int (by simp only [offE, h1]; rfl), rfl⟩)
  · have h1 : (decide (0 ≤ off) && decide (off ≤ 1000)) = false := by
      rw [Bool.eq_false_iff]; intro h'; apply h; simpa using h'
    have h2 := Lib.hid h
    clear h
    go_enter Try.func18, Try.ntmps18
    go_wp2_with (go_at_call 33; refine (bWithin_any _ _ _ _).mono ?_; rintro e w' ⟨rfl, rfl⟩)
    all_goals (go_ret; exact ⟨ret_int (by simp only [offE, h1]; rfl), rfl⟩)

end Go.Proofs.Ytjieojkfpoiabaa
