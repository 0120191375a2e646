/-
  Contracts: the error of a state, in the program and in the reference; the whole of a test.
-/
import Derived.Test.YtjieojkfpoiabaaB2
import Derived.Test.YtjieojkfpoiabaaA4
namespace Go.Proofs.Ytjieojkfpoiabaa
open Go.RowKit

/-- The error of one number of a state, and of a state. -/
def stB (x : HT) (zs : List Int) (k : Nat) : Bool := decide (-x.b ≤ gi zs k) && decide (gi zs k ≤ x.b)
def stE (x : HT) (zs : List Int) (k : Nat) : Int := unl (stB x zs k) 2
def stateE (x : HT) (zs : List Int) : Int := firstE [unl ((zs.length : Int) == x.dl + 2) 10, (eachR (stE x zs) 0 zs.length).2]

theorem stateE1_any (x : HT) (n k : Int) (p : Nat) (w : World) (hx : x.ok) (hb : w.cell? ⟨p, 6, none⟩ = some (.int .i64 x.b)) :
    Calls Try.prog 124 #[.int .i64 k, .int .i64 n, .pointer (some ⟨p, 0, none⟩)] w fun e w' => e = .returned (.int .i64 (unl (decide (-x.b ≤ n) && decide (n ≤ x.b)) 2)) ∧ w = w' := by
  have hb1 := hx.b1
  have hb2 := hx.b2
  go_enter Try.func124, Try.ntmps124
  go_wp2_with (first | (go_at_call 88; refine (sized_any _ _ _ (by omega) (by omega)).mono ?_; rintro e w' ⟨rfl, rfl⟩) | (go_at_call 76; refine (unless_any _ _ _).mono ?_; rintro e w' ⟨rfl, rfl⟩))
  go_ret
  exact ⟨rfl, rfl⟩

set_option maxHeartbeats 400000 in
theorem stateErr_any (x : HT) (zs : List Int) (a : Option Addr) (cap : Nat) (w : World) (hx : x.ok) (hlen : zs.length ≤ maxLen) (hr : Reads w a zs.length (ints zs)) :
    Calls Try.prog 89 #[.agg x.cells, .slice a zs.length cap] w fun e w' => e = .returned (.int .i64 (stateE x zs)) ∧ Below w.heap.size w w' := by
  have HL := Lib.hid hlen
  unfold maxLen at hlen
  have hR := Lib.hid hr
  clear hr
  go_enter Try.func89, Try.ntmps89
  go_wp2_with fail
  refine (each_int zs a cap 124 _ _ (stE x zs) (fun _ w' => w' = w.alloc (.cells x.cells 121)) HL.out (by intro args w; go_simp) rfl (fun k w' hk hw => by subst hw; exact hR.out.alloc _) (fun k w' hk hw => by
    subst hw
    refine (stateE1_any x _ _ _ _ hx (by simp [World.cell?_alloc_new])).mono ?_
    rintro e w' ⟨rfl, rfl⟩
    exact ⟨rfl, rfl⟩)).mono ?_
  rintro e w' ⟨rfl, k, hk, rfl⟩
  go_wp2_with fail
  refine (count_any x _ hx).mono ?_
  rintro e w1 ⟨rfl, hb⟩
  have HB := Lib.hid (bThen (bAlloc (bSelf w) (.cells x.cells 121)) hb)
  clear hb
  go_wp2_with (first | (go_at_call 76; refine (unless_any _ _ _).mono ?_; rintro e w' ⟨rfl, rfl⟩))
  refine (first2_new _ _ _ _ (by simp)).mono ?_; rintro e w' ⟨rfl, rfl⟩
  go_wp2_with fail
  go_ret
  exact ⟨rfl, bAlloc HB.out _⟩

theorem CheckState_bad (x : HT) (zs : List Int) (a : Option Addr) (cap : Nat) (w : World) (hE : testE x ≠ 0) :
    Calls Try.prog 36 #[.agg x.cells, .slice a zs.length cap] w fun e w' => e = .returned (.int .i64 (testE x)) ∧ Below w.heap.size w w' := by
  have HCT := Lib.hid (fun W => CheckTest_any x W)
  obtain ⟨c, hcE⟩ : ∃ c, testE x = c := ⟨_, rfl⟩
  rw [hcE] at HCT hE ⊢
  clear hcE
  have hc1 : (c != 0) = true := by simpa using hE
  go_enter Try.func36, Try.ntmps36
  go_wp2_with fail
  refine (HCT.out _).mono ?_
  rintro e w1 ⟨rfl, hb⟩
  have HB := Lib.hid (bThen (bAlloc (bSelf w) (.cells x.cells 25)) hb)
  clear hb
  go_wp2_with fail
  go_ret
  exact ⟨rfl, HB.out⟩

theorem CheckState_ok (x : HT) (zs : List Int) (a : Option Addr) (cap : Nat) (w : World) (hE : testE x = 0) (hlen : zs.length ≤ maxLen) (hr : Reads w a zs.length (ints zs)) :
    Calls Try.prog 36 #[.agg x.cells, .slice a zs.length cap] w fun e w' => e = .returned (.int .i64 (stateE x zs)) ∧ Below w.heap.size w w' := by
  have hx := testE_zero hE
  have HCT := Lib.hid (fun W => CheckTest_any x W)
  rw [hE] at HCT
  have HR0 := Lib.hid hr
  have HL := Lib.hid hlen
  clear hr hlen hE
  go_enter Try.func36, Try.ntmps36
  go_wp2_with fail
  refine (HCT.out _).mono ?_
  rintro e w1 ⟨rfl, hb⟩
  have K0 := Lib.hid ((Blk.new w x.cells 25).to hb)
  have HB := Lib.hid (bThen (bAlloc (bSelf w) (.cells x.cells 25)) hb)
  have HR := Lib.hid ((HR0.out.alloc (.cells x.cells 25)).to hb)
  clear hb
  obtain ⟨-, k0, -⟩ := K0.out
  go_wp2_with fail
  refine (stateErr_any x zs a cap _ hx HL.out HR.out).mono ?_
  rintro e w2 ⟨rfl, hb⟩
  replace HB := Lib.hid (bThen HB.out hb)
  clear hb
  go_wp2_with fail
  go_ret
  exact ⟨rfl, HB.out⟩

/-- Nine stores into a block. -/
abbrev set9 (W : World) (b : Nat) (v0 v1 v2 v3 v4 v5 v6 v7 v8 : Value) : World := (((((((((W.setCell ⟨b, 0, none⟩ v0).setCell ⟨b, 1, none⟩ v1).setCell ⟨b, 2, none⟩ v2).setCell ⟨b, 3, none⟩ v3).setCell ⟨b, 4, none⟩ v4).setCell ⟨b, 5, none⟩ v5).setCell ⟨b, 6, none⟩ v6).setCell ⟨b, 7, none⟩ v7).setCell ⟨b, 8, none⟩ v8)
theorem Blk.set9 {W : World} {b : Nat} {c0 c1 c2 c3 c4 c5 c6 c7 c8 : Value} (h : Blk W b #[c0, c1, c2, c3, c4, c5, c6, c7, c8]) (v0 v1 v2 v3 v4 v5 v6 v7 v8 : Value) : Blk (_root_.Go.Proofs.Ytjieojkfpoiabaa.set9 W b v0 v1 v2 v3 v4 v5 v6 v7 v8) b #[v0, v1, v2, v3, v4, v5, v6, v7, v8] := by
  have h1 : Blk (W.setCell ⟨b, 0, none⟩ v0) b #[v0, c1, c2, c3, c4, c5, c6, c7, c8] := h.set 0 v0
  have h2 : Blk ((W.setCell ⟨b, 0, none⟩ v0).setCell ⟨b, 1, none⟩ v1) b #[v0, v1, c2, c3, c4, c5, c6, c7, c8] := h1.set 1 v1
  have h3 : Blk (((W.setCell ⟨b, 0, none⟩ v0).setCell ⟨b, 1, none⟩ v1).setCell ⟨b, 2, none⟩ v2) b #[v0, v1, v2, c3, c4, c5, c6, c7, c8] := h2.set 2 v2
  have h4 : Blk ((((W.setCell ⟨b, 0, none⟩ v0).setCell ⟨b, 1, none⟩ v1).setCell ⟨b, 2, none⟩ v2).setCell ⟨b, 3, none⟩ v3) b #[v0, v1, v2, v3, c4, c5, c6, c7, c8] := h3.set 3 v3
  have h5 : Blk (((((W.setCell ⟨b, 0, none⟩ v0).setCell ⟨b, 1, none⟩ v1).setCell ⟨b, 2, none⟩ v2).setCell ⟨b, 3, none⟩ v3).setCell ⟨b, 4, none⟩ v4) b #[v0, v1, v2, v3, v4, c5, c6, c7, c8] := h4.set 4 v4
  have h6 : Blk ((((((W.setCell ⟨b, 0, none⟩ v0).setCell ⟨b, 1, none⟩ v1).setCell ⟨b, 2, none⟩ v2).setCell ⟨b, 3, none⟩ v3).setCell ⟨b, 4, none⟩ v4).setCell ⟨b, 5, none⟩ v5) b #[v0, v1, v2, v3, v4, v5, c6, c7, c8] := h5.set 5 v5
  have h7 : Blk (((((((W.setCell ⟨b, 0, none⟩ v0).setCell ⟨b, 1, none⟩ v1).setCell ⟨b, 2, none⟩ v2).setCell ⟨b, 3, none⟩ v3).setCell ⟨b, 4, none⟩ v4).setCell ⟨b, 5, none⟩ v5).setCell ⟨b, 6, none⟩ v6) b #[v0, v1, v2, v3, v4, v5, v6, c7, c8] := h6.set 6 v6
  have h8 : Blk ((((((((W.setCell ⟨b, 0, none⟩ v0).setCell ⟨b, 1, none⟩ v1).setCell ⟨b, 2, none⟩ v2).setCell ⟨b, 3, none⟩ v3).setCell ⟨b, 4, none⟩ v4).setCell ⟨b, 5, none⟩ v5).setCell ⟨b, 6, none⟩ v6).setCell ⟨b, 7, none⟩ v7) b #[v0, v1, v2, v3, v4, v5, v6, v7, c8] := h7.set 7 v7
  have h9 : Blk (((((((((W.setCell ⟨b, 0, none⟩ v0).setCell ⟨b, 1, none⟩ v1).setCell ⟨b, 2, none⟩ v2).setCell ⟨b, 3, none⟩ v3).setCell ⟨b, 4, none⟩ v4).setCell ⟨b, 5, none⟩ v5).setCell ⟨b, 6, none⟩ v6).setCell ⟨b, 7, none⟩ v7).setCell ⟨b, 8, none⟩ v8) b #[v0, v1, v2, v3, v4, v5, v6, v7, v8] := h8.set 8 v8
  exact h9
theorem below_set9 {B : Nat} {W W' : World} (h : Below B W W') {b : Nat} (hB : B ≤ b) (v0 v1 v2 v3 v4 v5 v6 v7 v8 : Value) : Below B W (set9 W' b v0 v1 v2 v3 v4 v5 v6 v7 v8) := (((((((((h.setCell (p := ⟨b, 0, none⟩) hB _).setCell (p := ⟨b, 1, none⟩) hB _).setCell (p := ⟨b, 2, none⟩) hB _).setCell (p := ⟨b, 3, none⟩) hB _).setCell (p := ⟨b, 4, none⟩) hB _).setCell (p := ⟨b, 5, none⟩) hB _).setCell (p := ⟨b, 6, none⟩) hB _).setCell (p := ⟨b, 7, none⟩) hB _).setCell (p := ⟨b, 8, none⟩) hB _)

/-- The whole of a test, and its error. -/
abbrev HT.whole (x : HT) : HT := { x with c := x.c + x.s, s := 0, dl := 0 }
abbrev ht0 : HT := ⟨0, 0, 0, 0, 0, false, 0, 0, 0⟩

theorem WholeOf_bad (x : HT) (w : World) (hE : testE x ≠ 0) :
    Calls Try.prog 20 #[.agg x.cells] w fun e w' => e = .returned (.tuple #[.agg ht0.cells, .int .i64 (testE x)]) ∧ Below w.heap.size w w' := by
  have HCT := Lib.hid (fun W => CheckTest_any x W)
  obtain ⟨c, hcE⟩ : ∃ c, testE x = c := ⟨_, rfl⟩
  rw [hcE] at HCT hE ⊢
  clear hcE
  have hc1 : (c != 0) = true := by simpa using hE
  go_enter Try.func20, Try.ntmps20
  go_wp2_with fail
  refine (HCT.out _).mono ?_
  rintro e w1 ⟨rfl, hb⟩
  have K1 := Lib.hid ((Blk.newAt (B := w.heap.size + 1) (w.alloc (.cells x.cells 25)) ht0.cells 25 (by simp)).to hb)
  have HB := Lib.hid (bThen (bAlloc (bAlloc (bSelf w) _) _) hb)
  clear hb
  obtain ⟨h1, k1, f1⟩ := K1.out
  go_wp2_with fail
  clear k1 f1
  have F := (K1.out.set9 (.int .i64 0) (.int .i64 0) (.int .i64 0) (.int .i64 0) (.int .i64 0) (.bool false) (.int .i64 0) (.int .i64 0) (.int .i64 0)).2.1
  have F0 := F 0; have F1 := F 1; have F2 := F 2; have F3 := F 3; have F4 := F 4; have F5 := F 5; have F6 := F 6; have F7 := F 7; have F8 := F 8
  clear F
  refine bodyPost_ret (v := .tuple #[.agg ht0.cells, .int .i64 c]) ?_ rfl ⟨rfl, ?_⟩
  · simp [results, Try.results20, go_sem, F0, F1, F2, F3, F4, F5, F6, F7, F8]
  · exact below_set9 HB.out (by omega) _ _ _ _ _ _ _ _ _


set_option maxHeartbeats 400000 in
theorem WholeOf_large (x : HT) (w : World) (hE : testE x = 0) (hl : 1000 < x.c + x.s) :
    Calls Try.prog 20 #[.agg x.cells] w fun e w' => e = .returned (.tuple #[.agg ht0.cells, .int .i64 8]) ∧ Below w.heap.size w w' := by
  have hx := testE_zero hE
  have c1 := hx.c1
  have c2 := hx.c2
  have s1 := hx.s1
  have s2 := hx.s2
  have HCT := Lib.hid (fun W => CheckTest_any x W)
  rw [hE] at HCT
  clear hE
  go_enter Try.func20, Try.ntmps20
  go_wp2_with fail
  refine (HCT.out _).mono ?_
  rintro e w1 ⟨rfl, hb⟩
  have K0 := Lib.hid (((Blk.new w x.cells 25).alloc (.cells ht0.cells 25)).to hb)
  have K1 := Lib.hid ((Blk.newAt (B := w.heap.size + 1) (w.alloc (.cells x.cells 25)) ht0.cells 25 (by simp)).to hb)
  have HB := Lib.hid (bThen (bAlloc (bAlloc (bSelf w) _) _) hb)
  clear hb
  obtain ⟨h0, k0, f0⟩ := K0.out
  go_upto_region 5 with (fail)
  obtain ⟨w2, hw2⟩ : ∃ w2, (((w1.setCell ⟨w.heap.size, 2, none⟩ (.int .i64 (x.c + x.s))).setCell ⟨w.heap.size, 3, none⟩ (.int .i64 0)).setCell ⟨w.heap.size, 4, none⟩ (.int .i64 0)) = w2 := ⟨_, rfl⟩
  rw [hw2]
  have K2 : Hid (Blk w2 w.heap.size x.whole.cells) := by subst hw2; exact Lib.hid (((K0.out.set 2 _).set 3 _).set 4 _)
  have K3 : Hid (Blk w2 (w.heap.size + 1) ht0.cells) := by subst hw2; exact Lib.hid (((K1.out.other (p := ⟨w.heap.size, 2, none⟩) (by dsimp only; omega) _).other (p := ⟨w.heap.size, 3, none⟩) (by dsimp only; omega) _).other (p := ⟨w.heap.size, 4, none⟩) (by dsimp only; omega) _)
  have HB2 : Hid (Below w.heap.size w w2) := by subst hw2; exact Lib.hid (((HB.out.setCell (p := ⟨w.heap.size, 2, none⟩) (Nat.le_refl _) _).setCell (p := ⟨w.heap.size, 3, none⟩) (Nat.le_refl _) _).setCell (p := ⟨w.heap.size, 4, none⟩) (Nat.le_refl _) _)
  clear hw2 k0 f0 h0 K0 K1 HB
  obtain ⟨h0, k0, f0⟩ := K2.out
  obtain ⟨h1, k1, f1⟩ := K3.out
  go_wp2_with fail
  clear k0 f0 k1 f1
  have F := (K3.out.set9 (.int .i64 0) (.int .i64 0) (.int .i64 0) (.int .i64 0) (.int .i64 0) (.bool false) (.int .i64 0) (.int .i64 0) (.int .i64 0)).2.1
  have F0 := F 0; have F1 := F 1; have F2 := F 2; have F3 := F 3; have F4 := F 4; have F5 := F 5; have F6 := F 6; have F7 := F 7; have F8 := F 8
  clear F
  refine bodyPost_ret (v := .tuple #[.agg ht0.cells, .int .i64 8]) ?_ rfl ⟨rfl, ?_⟩
  · simp [results, Try.results20, go_sem, F0, F1, F2, F3, F4, F5, F6, F7, F8]
  · exact below_set9 HB2.out (by omega) _ _ _ _ _ _ _ _ _

set_option maxHeartbeats 400000 in
theorem WholeOf_ok (x : HT) (w : World) (hE : testE x = 0) (hl : x.c + x.s ≤ 1000) :
    Calls Try.prog 20 #[.agg x.cells] w fun e w' => e = .returned (.tuple #[.agg x.whole.cells, .int .i64 0]) ∧ Below w.heap.size w w' := by
  have hx := testE_zero hE
  have c1 := hx.c1
  have c2 := hx.c2
  have s1 := hx.s1
  have s2 := hx.s2
  have HCT := Lib.hid (fun W => CheckTest_any x W)
  rw [hE] at HCT
  clear hE
  go_enter Try.func20, Try.ntmps20
  go_wp2_with fail
  refine (HCT.out _).mono ?_
  rintro e w1 ⟨rfl, hb⟩
  have K0 := Lib.hid (((Blk.new w x.cells 25).alloc (.cells ht0.cells 25)).to hb)
  have K1 := Lib.hid ((Blk.newAt (B := w.heap.size + 1) (w.alloc (.cells x.cells 25)) ht0.cells 25 (by simp)).to hb)
  have HB := Lib.hid (bThen (bAlloc (bAlloc (bSelf w) _) _) hb)
  clear hb
  obtain ⟨h0, k0, f0⟩ := K0.out
  go_upto_region 5 with (fail)
  obtain ⟨w2, hw2⟩ : ∃ w2, (((w1.setCell ⟨w.heap.size, 2, none⟩ (.int .i64 (x.c + x.s))).setCell ⟨w.heap.size, 3, none⟩ (.int .i64 0)).setCell ⟨w.heap.size, 4, none⟩ (.int .i64 0)) = w2 := ⟨_, rfl⟩
  rw [hw2]
  have K2 : Hid (Blk w2 w.heap.size x.whole.cells) := by subst hw2; exact Lib.hid (((K0.out.set 2 _).set 3 _).set 4 _)
  have K3 : Hid (Blk w2 (w.heap.size + 1) ht0.cells) := by subst hw2; exact Lib.hid (((K1.out.other (p := ⟨w.heap.size, 2, none⟩) (by dsimp only; omega) _).other (p := ⟨w.heap.size, 3, none⟩) (by dsimp only; omega) _).other (p := ⟨w.heap.size, 4, none⟩) (by dsimp only; omega) _)
  have HB2 : Hid (Below w.heap.size w w2) := by subst hw2; exact Lib.hid (((HB.out.setCell (p := ⟨w.heap.size, 2, none⟩) (Nat.le_refl _) _).setCell (p := ⟨w.heap.size, 3, none⟩) (Nat.le_refl _) _).setCell (p := ⟨w.heap.size, 4, none⟩) (Nat.le_refl _) _)
  clear hw2 k0 f0 h0 K0 K1 HB
  obtain ⟨h0, k0, f0⟩ := K2.out
  obtain ⟨h1, k1, f1⟩ := K3.out
  go_wp2_with fail
  clear k0 f0 k1 f1
  have F := (K3.out.set9 (.int .i64 x.m) (.int .i64 x.d) (.int .i64 (x.c + x.s)) (.int .i64 0) (.int .i64 0) (.bool x.cp) (.int .i64 x.b) (.int .i64 x.lo) (.int .i64 x.hi)).2.1
  have F0 := F 0; have F1 := F 1; have F2 := F 2; have F3 := F 3; have F4 := F 4; have F5 := F 5; have F6 := F 6; have F7 := F 7; have F8 := F 8
  clear F
  refine bodyPost_ret (v := .tuple #[.agg x.whole.cells, .int .i64 0]) ?_ rfl ⟨rfl, ?_⟩
  · simp [results, Try.results20, go_sem, F0, F1, F2, F3, F4, F5, F6, F7, F8]
  · exact below_set9 HB2.out (by omega) _ _ _ _ _ _ _ _ _

end Go.Proofs.Ytjieojkfpoiabaa
