/-
  Texts of this claim, in their build order: R4.
-/
import Derived.Test.YtjieojkfpoiabaaHalves44

/-
  HybridHalves: the walk, for all inputs.
-/
namespace Go.Proofs.Ytjieojkfpoiabaa
open Go.RowKit

theorem chkC_pos {ks fs : List Int} (h : (chkC ks fs).2 = 0) : 0 < ks.length := by
  unfold chkC at h
  by_cases h0 : chE0 ks fs = 0
  · have e := firstE_zero (show firstE [_, _] = 0 from h0)
    have e1 := unl_zero (by decide) (e _ (List.mem_cons_self ..))
    simp only [Bool.and_eq_true, beq_iff_eq, decide_eq_true_eq] at e1
    omega
  · rw [if_neg h0] at h; exact absurd h h0

set_option maxHeartbeats 1600000 in
set_option maxRecDepth 100000 in
theorem HybridHalves_any (ks fs : List Int) (x0 x1 : Int) (a1 a2 : Option Addr) (c1 c2 : Nat) (w : World) (hck : ks.length ≤ c1) (hcf : fs.length ≤ c2)
    (hr1 : Reads w a1 ks.length (ints ks)) (hr2 : Reads w a2 fs.length (ints fs)) :
    Calls Try.prog 9 #[.agg (chV a1 ks.length c1 a2 fs.length c2), .agg #[.int .i64 x0, .int .i64 x1]] w fun e w' => e = .returned (.bool true) ∧ Below w.heap.size w w' := by
  by_cases k1 : ks.length ≤ 6
  · by_cases hz : (chkC ks fs).2 = 0
    · exact HybridHalves_main ks fs x0 x1 a1 a2 c1 c2 w (chkC_zero hz) (chkC_pos hz) hcf hck hr1 hr2
    · have q1 : decide (6 < (ks.length : Int)) = false := decide_eq_false (by omega)
      have HCE := Lib.hid (fun W (hb : Below w.heap.size w W) => rChainErr_any ks fs a1 a2 c1 c2 W (by omega) (hr1.to hb) (hr2.to hb))
      obtain ⟨z, hzz⟩ : ∃ z, (chkC ks fs).2 = z := ⟨_, rfl⟩
      rw [hzz] at HCE hz
      have hzn : (z != 0) = true := by rw [bne_iff_ne]; exact hz
      obtain ⟨n0, hn0'⟩ : ∃ n, ks.length = n := ⟨_, rfl⟩
      obtain ⟨n1, hn1'⟩ : ∃ n, fs.length = n := ⟨_, rfl⟩
      rw [hn0'] at q1 HCE
      rw [hn1'] at HCE
      rw [hn0', hn1']
      clear hr1 hr2 hn0' hn1' k1 hck hcf hzz
      go_enter Try.func9, Try.ntmps9
      go_wp2_with fail
      have K2 := Lib.hid ((Blk.new w (chV a1 n0 c1 a2 n1 c2) 73).alloc (.cells #[.int .i64 x0, .int .i64 x1] 99))
      have HB := Lib.hid (bAlloc (bAlloc (bSelf w) (.cells (chV a1 n0 c1 a2 n1 c2) 73)) (.cells #[.int .i64 x0, .int .i64 x1] 99))
      refine (awake_any _).mono ?_
      rintro e w4 ⟨rfl, hb⟩
      replace K2 := Lib.hid (K2.out.to hb)
      replace HB := Lib.hid (bThen HB.out hb)
      clear hb
      obtain ⟨-, k2, -⟩ := K2.out
      go_wp2_with fail
      refine (HCE.out _ HB.out).mono ?_
      rintro e w5 ⟨rfl, hb⟩
      replace HB := Lib.hid (bThen HB.out hb)
      clear hb k2
      go_wp2_with fail
      go_ret
      exact ⟨rfl, HB.out⟩
  · have q1 : decide (6 < (ks.length : Int)) = true := decide_eq_true (by omega)
    obtain ⟨n0, hn0'⟩ : ∃ n, ks.length = n := ⟨_, rfl⟩
    obtain ⟨n1, hn1'⟩ : ∃ n, fs.length = n := ⟨_, rfl⟩
    rw [hn0'] at q1
    rw [hn0', hn1']
    clear hr1 hr2 hn0' hn1' k1 hck hcf
    go_enter Try.func9, Try.ntmps9
    go_wp2_with fail
    have K2 := Lib.hid ((Blk.new w (chV a1 n0 c1 a2 n1 c2) 73).alloc (.cells #[.int .i64 x0, .int .i64 x1] 99))
    have HB := Lib.hid (bAlloc (bAlloc (bSelf w) (.cells (chV a1 n0 c1 a2 n1 c2) 73)) (.cells #[.int .i64 x0, .int .i64 x1] 99))
    refine (awake_any _).mono ?_
    rintro e w4 ⟨rfl, hb⟩
    replace K2 := Lib.hid (K2.out.to hb)
    replace HB := Lib.hid (bThen HB.out hb)
    clear hb
    obtain ⟨-, k2, -⟩ := K2.out
    go_wp2_with fail
    go_ret
    exact ⟨rfl, HB.out⟩

end Go.Proofs.Ytjieojkfpoiabaa

