/-
  Texts of this claim, in their build order: N2 N4.
-/
import Derived.Test.YtmofgejoogikfaaTop44
import Derived.Test.YtmofgejoogikfaaTop45

/-
  TopHybridChain: the walk, its two halves joined.
-/
namespace Go.Proofs.Ytmofgejoogikfaa
open Go.RowKit

theorem TopHybridChain_main (ks fs : List Int) (x0 : Int) (a1 a2 : Option Addr) (c1 c2 : Nat) (w : World) (hok : ChOk ks fs) (hn0 : 0 < ks.length) (hn5 : ks.length ≤ 5) (hcf : fs.length ≤ c2) (hck : ks.length ≤ c1)
    (hr1 : Reads w a1 ks.length (ints ks)) (hr2 : Reads w a2 fs.length (ints fs)) :
    Calls Try.prog 3 #[.agg (chV a1 ks.length c1 a2 fs.length c2), .int .i64 x0] w fun e w' => e = .returned (.bool true) ∧ Below w.heap.size w w' := by
  cases hmo : mvO ks fs with
  | none => exact TopHybridChain_none ks fs x0 a1 a2 c1 c2 w hok hn0 hn5 hcf hck hr1 hr2 hmo
  | some l => exact TopHybridChain_some ks fs l x0 a1 a2 c1 c2 w hok hn0 hn5 hcf hck hr1 hr2 hmo

end Go.Proofs.Ytmofgejoogikfaa

/-
  TopHybridChain: the walk, for all inputs.
-/
namespace Go.Proofs.Ytmofgejoogikfaa
open Go.RowKit

theorem chkC_pos' {ks fs : List Int} (h : (chkC ks fs).2 = 0) : 0 < ks.length := by
  unfold chkC at h
  by_cases h0 : chE0 ks fs = 0
  · have e := firstE_zero (show firstE [_, _] = 0 from h0)
    have e1 := unl_zero (by decide) (e _ (List.mem_cons_self ..))
    simp only [Bool.and_eq_true, beq_iff_eq, decide_eq_true_eq] at e1
    omega
  · rw [if_neg h0] at h; exact absurd h h0

set_option maxHeartbeats 1600000 in
set_option maxRecDepth 100000 in
theorem TopHybridChain_any (ks fs : List Int) (x0 : Int) (a1 a2 : Option Addr) (c1 c2 : Nat) (w : World) (hck : ks.length ≤ c1) (hcf : fs.length ≤ c2)
    (hr1 : Reads w a1 ks.length (ints ks)) (hr2 : Reads w a2 fs.length (ints fs)) :
    Calls Try.prog 3 #[.agg (chV a1 ks.length c1 a2 fs.length c2), .int .i64 x0] w fun e w' => e = .returned (.bool true) ∧ Below w.heap.size w w' := by
  by_cases k1 : ks.length ≤ 5
  · by_cases hz : (chkC ks fs).2 = 0
    · exact TopHybridChain_main ks fs x0 a1 a2 c1 c2 w (chkC_zero hz) (chkC_pos' hz) k1 hcf hck hr1 hr2
    · have q1 : decide (5 < (ks.length : Int)) = false := decide_eq_false (by omega)
      have HCE := Lib.hid (fun W (hb : Below w.heap.size w W) => rChainErr_any ks fs a1 a2 c1 c2 W (by omega) (hr1.to hb) (hr2.to hb))
      obtain ⟨z, hzz⟩ : ∃ z, (chkC ks fs).2 = z := ⟨_, rfl⟩
      rw [hzz] at HCE hz
      have hzn : (z != 0) = true := by rw [bne_iff_ne]; exact hz
      obtain ⟨n0, hn0'⟩ : ∃ n, ks.length = n := ⟨_, rfl⟩
      obtain ⟨n1, hn1'⟩ : ∃ n, fs.length = n := ⟨_, rfl⟩
      rw [hn0'] at q1 HCE
      rw [hn1'] at HCE
      rw [hn0', hn1']
      clear hr1 hr2 hn0' hn1' k1 hck hcf hzz
      go_enter Try.func3, Try.ntmps3
      go_wp2_with fail
      have K2 := Lib.hid (Blk.new w (chV a1 n0 c1 a2 n1 c2) 24)
      have HB := Lib.hid (bAlloc (bSelf w) (.cells (chV a1 n0 c1 a2 n1 c2) 24))
      refine (shown_any _).mono ?_
      rintro e w4 ⟨rfl, hb⟩
      replace K2 := Lib.hid (K2.out.to hb)
      replace HB := Lib.hid (bThen HB.out hb)
      clear hb
      obtain ⟨-, k2, -⟩ := K2.out
      go_wp2_with fail
      refine (HCE.out _ HB.out).mono ?_
      rintro e w5 ⟨rfl, hb⟩
      replace HB := Lib.hid (bThen HB.out hb)
      clear hb k2
      go_wp2_with fail
      go_ret
      exact ⟨rfl, HB.out⟩
  · have q1 : decide (5 < (ks.length : Int)) = true := decide_eq_true (by omega)
    obtain ⟨n0, hn0'⟩ : ∃ n, ks.length = n := ⟨_, rfl⟩
    obtain ⟨n1, hn1'⟩ : ∃ n, fs.length = n := ⟨_, rfl⟩
    rw [hn0'] at q1
    rw [hn0', hn1']
    clear hr1 hr2 hn0' hn1' k1 hck hcf
    go_enter Try.func3, Try.ntmps3
    go_wp2_with fail
    have K2 := Lib.hid (Blk.new w (chV a1 n0 c1 a2 n1 c2) 24)
    have HB := Lib.hid (bAlloc (bSelf w) (.cells (chV a1 n0 c1 a2 n1 c2) 24))
    refine (shown_any _).mono ?_
    rintro e w4 ⟨rfl, hb⟩
    replace K2 := Lib.hid (K2.out.to hb)
    replace HB := Lib.hid (bThen HB.out hb)
    clear hb
    obtain ⟨-, k2, -⟩ := K2.out
    go_wp2_with fail
    go_ret
    exact ⟨rfl, HB.out⟩

end Go.Proofs.Ytmofgejoogikfaa

