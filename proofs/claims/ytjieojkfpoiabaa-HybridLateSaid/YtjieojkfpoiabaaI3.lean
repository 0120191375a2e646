/-
  HybridLate for any messages: the early returns.
-/
import Derived.Test.YtjieojkfpoiabaaI2
import Derived.Test.YtjieojkfpoiabaaG2
namespace Go.Proofs.Ytjieojkfpoiabaa
open Go.RowKit

set_option maxHeartbeats 4000000 in
set_option maxRecDepth 100000 in
theorem Late_e1 (ms : List Msg) (a : Option Addr) (cap : Nat) (d u more : Int) (w : World) (hlen : ms.length ≤ maxLen) (hf : ¬ ms.length ≤ 60) :
    Calls Try.prog 6 #[.slice a ms.length cap, .agg #[.int .i64 d, .int .i64 u], .int .i64 more] w fun e w' => e = .returned (.bool true) ∧ Below w.heap.size w w' := by
  unfold maxLen at hlen
  go_enter Try.func6, Try.ntmps6
  go_wp2_with fail
  refine (awake_any _).mono ?_
  rintro e w1 ⟨rfl, hb⟩
  have HB := Lib.hid (bThen (bAlloc (bSelf w) (.cells #[.int .i64 d, .int .i64 u] 45)) hb)
  clear hb
  have hf1 : decide ((60 : Int) < (ms.length : Int)) = true := decide_eq_true (by omega)
  go_wp2_with fail
  go_ret
  exact ⟨rfl, HB.out⟩

set_option maxHeartbeats 4000000 in
set_option maxRecDepth 100000 in
theorem Late_e2 (ms : List Msg) (a : Option Addr) (cap : Nat) (d u more : Int) (w : World) (hfew : ms.length ≤ 60) (hc : (chkM ms).2 ≠ 0) (hr : Reads w a (ms.length * 3) (msgs ms)) :
    Calls Try.prog 6 #[.slice a ms.length cap, .agg #[.int .i64 d, .int .i64 u], .int .i64 more] w fun e w' => e = .returned (.bool true) ∧ Below w.heap.size w w' := by
  have HR0 := Lib.hid hr
  clear hr
  have hf1 : decide ((60 : Int) < (ms.length : Int)) = false := decide_eq_false (by omega)
  have HME := Lib.hid (fun (W : World) h => MessagesErr_any ms a cap W (by unfold maxLen; omega) h)
  obtain ⟨c, hcE⟩ : ∃ c, (chkM ms).2 = c := ⟨_, rfl⟩
  rw [hcE] at HME hc
  clear hcE
  have hc1 : (c != 0) = true := by simpa using hc
  go_enter Try.func6, Try.ntmps6
  go_wp2_with fail
  refine (awake_any _).mono ?_
  rintro e w1 ⟨rfl, hb⟩
  have HB := Lib.hid (bThen (bAlloc (bSelf w) (.cells #[.int .i64 d, .int .i64 u] 45)) hb)
  have K0 := Lib.hid ((Blk.new w #[.int .i64 d, .int .i64 u] 45).to hb)
  have HR := Lib.hid ((HR0.out.alloc (.cells #[.int .i64 d, .int .i64 u] 45)).to hb)
  clear hb
  go_wp2_with fail
  refine (HME.out _ HR.out).mono ?_
  rintro e w2 ⟨rfl, hb⟩
  replace K0 := Lib.hid (K0.out.to hb)
  replace HR := Lib.hid (HR.out.to hb)
  replace HB := Lib.hid (bThen HB.out hb)
  clear hb
  go_wp2_with fail
  go_ret
  exact ⟨rfl, HB.out⟩

set_option maxHeartbeats 4000000 in
set_option maxRecDepth 100000 in
theorem Late_e3 (ms : List Msg) (a : Option Addr) (cap : Nat) (d u more : Int) (w : World) (hfew : ms.length ≤ 60) (hc : (chkM ms).2 = 0) (hck : clkE ms d u ≠ 0) (hr : Reads w a (ms.length * 3) (msgs ms)) :
    Calls Try.prog 6 #[.slice a ms.length cap, .agg #[.int .i64 d, .int .i64 u], .int .i64 more] w fun e w' => e = .returned (.bool true) ∧ Below w.heap.size w w' := by
  have HR0 := Lib.hid hr
  clear hr
  have hf1 : decide ((60 : Int) < (ms.length : Int)) = false := decide_eq_false (by omega)
  have HME := Lib.hid (fun (W : World) h => MessagesErr_any ms a cap W (by unfold maxLen; omega) h)
  have HCK := Lib.hid (fun (W : World) h => ClockErr_any ms a cap d u W (by unfold maxLen; omega) h)
  rw [hc] at HME
  obtain ⟨ck, hkE⟩ : ∃ ck, clkE ms d u = ck := ⟨_, rfl⟩
  rw [hkE] at HCK hck
  clear hkE
  have hk1 : (ck != 0) = true := by simpa using hck
  go_enter Try.func6, Try.ntmps6
  go_wp2_with fail
  refine (awake_any _).mono ?_
  rintro e w1 ⟨rfl, hb⟩
  have HB := Lib.hid (bThen (bAlloc (bSelf w) (.cells #[.int .i64 d, .int .i64 u] 45)) hb)
  have K0 := Lib.hid ((Blk.new w #[.int .i64 d, .int .i64 u] 45).to hb)
  have HR := Lib.hid ((HR0.out.alloc (.cells #[.int .i64 d, .int .i64 u] 45)).to hb)
  clear hb
  go_wp2_with fail
  refine (HME.out _ HR.out).mono ?_
  rintro e w2 ⟨rfl, hb⟩
  replace K0 := Lib.hid (K0.out.to hb)
  replace HR := Lib.hid (HR.out.to hb)
  replace HB := Lib.hid (bThen HB.out hb)
  clear hb
  obtain ⟨-, k0, -⟩ := K0.out
  go_wp2_with fail
  refine (HCK.out _ HR.out).mono ?_
  rintro e w3 ⟨rfl, hb⟩
  replace K0 := Lib.hid (K0.out.to hb)
  replace HR := Lib.hid (HR.out.to hb)
  replace HB := Lib.hid (bThen HB.out hb)
  clear hb k0
  go_wp2_with fail
  go_ret
  exact ⟨rfl, HB.out⟩

set_option maxHeartbeats 4000000 in
set_option maxRecDepth 100000 in
theorem Late_e4 (ms : List Msg) (a : Option Addr) (cap : Nat) (d u more : Int) (w : World) (hfew : ms.length ≤ 60) (hc : (chkM ms).2 = 0) (hck : clkE ms d u = 0) (hm : (decide (0 ≤ more) && decide (more ≤ 1000)) = false) (hr : Reads w a (ms.length * 3) (msgs ms)) :
    Calls Try.prog 6 #[.slice a ms.length cap, .agg #[.int .i64 d, .int .i64 u], .int .i64 more] w fun e w' => e = .returned (.bool true) ∧ Below w.heap.size w w' := by
  have HR0 := Lib.hid hr
  clear hr
  have hf1 : decide ((60 : Int) < (ms.length : Int)) = false := decide_eq_false (by omega)
  have HME := Lib.hid (fun (W : World) h => MessagesErr_any ms a cap W (by unfold maxLen; omega) h)
  have HCK := Lib.hid (fun (W : World) h => ClockErr_any ms a cap d u W (by unfold maxLen; omega) h)
  rw [hc] at HME
  rw [hck] at HCK
  go_enter Try.func6, Try.ntmps6
  go_wp2_with fail
  refine (awake_any _).mono ?_
  rintro e w1 ⟨rfl, hb⟩
  have HB := Lib.hid (bThen (bAlloc (bSelf w) (.cells #[.int .i64 d, .int .i64 u] 45)) hb)
  have K0 := Lib.hid ((Blk.new w #[.int .i64 d, .int .i64 u] 45).to hb)
  have HR := Lib.hid ((HR0.out.alloc (.cells #[.int .i64 d, .int .i64 u] 45)).to hb)
  clear hb
  go_wp2_with fail
  refine (HME.out _ HR.out).mono ?_
  rintro e w2 ⟨rfl, hb⟩
  replace K0 := Lib.hid (K0.out.to hb)
  replace HR := Lib.hid (HR.out.to hb)
  replace HB := Lib.hid (bThen HB.out hb)
  clear hb
  obtain ⟨-, k0, -⟩ := K0.out
  go_wp2_with fail
  refine (HCK.out _ HR.out).mono ?_
  rintro e w3 ⟨rfl, hb⟩
  replace K0 := Lib.hid (K0.out.to hb)
  replace HR := Lib.hid (HR.out.to hb)
  replace HB := Lib.hid (bThen HB.out hb)
  clear hb k0
  go_wp2_with (go_at_call 33; refine (bWithin_any _ _ _ _).mono ?_; rintro e w' ⟨rfl, rfl⟩; rw [hm])
  go_ret
  exact ⟨rfl, HB.out⟩

set_option maxHeartbeats 4000000 in
set_option maxRecDepth 100000 in
theorem Late_e5 (ms : List Msg) (a : Option Addr) (cap : Nat) (d u more : Int) (w : World) (hfew : ms.length ≤ 60) (hc : (chkM ms).2 = 0) (hck : clkE ms d u = 0) (hm1 : 0 ≤ more) (hm2 : more ≤ 1000) (hu : 999999999000 < u) (hr : Reads w a (ms.length * 3) (msgs ms)) :
    Calls Try.prog 6 #[.slice a ms.length cap, .agg #[.int .i64 d, .int .i64 u], .int .i64 more] w fun e w' => e = .returned (.bool true) ∧ Below w.heap.size w w' := by
  have HR0 := Lib.hid hr
  clear hr
  have hf1 : decide ((60 : Int) < (ms.length : Int)) = false := decide_eq_false (by omega)
  have HME := Lib.hid (fun (W : World) h => MessagesErr_any ms a cap W (by unfold maxLen; omega) h)
  have HCK := Lib.hid (fun (W : World) h => ClockErr_any ms a cap d u W (by unfold maxLen; omega) h)
  rw [hc] at HME
  rw [hck] at HCK
  go_enter Try.func6, Try.ntmps6
  go_wp2_with fail
  refine (awake_any _).mono ?_
  rintro e w1 ⟨rfl, hb⟩
  have HB := Lib.hid (bThen (bAlloc (bSelf w) (.cells #[.int .i64 d, .int .i64 u] 45)) hb)
  have K0 := Lib.hid ((Blk.new w #[.int .i64 d, .int .i64 u] 45).to hb)
  have HR := Lib.hid ((HR0.out.alloc (.cells #[.int .i64 d, .int .i64 u] 45)).to hb)
  clear hb
  go_wp2_with fail
  refine (HME.out _ HR.out).mono ?_
  rintro e w2 ⟨rfl, hb⟩
  replace K0 := Lib.hid (K0.out.to hb)
  replace HR := Lib.hid (HR.out.to hb)
  replace HB := Lib.hid (bThen HB.out hb)
  clear hb
  obtain ⟨-, k0, -⟩ := K0.out
  go_wp2_with fail
  refine (HCK.out _ HR.out).mono ?_
  rintro e w3 ⟨rfl, hb⟩
  replace K0 := Lib.hid (K0.out.to hb)
  replace HR := Lib.hid (HR.out.to hb)
  replace HB := Lib.hid (bThen HB.out hb)
  clear hb k0
  obtain ⟨-, k0, -⟩ := K0.out
  have hu1 : decide ((999999999000 : Int) < u) = true := decide_eq_true hu
  go_wp2_with (go_at_call 33; refine (bWithin_any _ _ _ _).mono ?_; rintro e w' ⟨rfl, rfl⟩; rw [decide_eq_true hm1, decide_eq_true hm2])
  go_ret
  exact ⟨rfl, HB.out⟩

set_option maxHeartbeats 4000000 in
set_option maxRecDepth 100000 in
theorem Late_e6 (ms : List Msg) (a : Option Addr) (cap : Nat) (d u more : Int) (w : World) (hfew : ms.length ≤ 60) (hc : (chkM ms).2 = 0) (hck : clkE ms d u = 0) (hm1 : 0 ≤ more) (hm2 : more ≤ 1000) (hu : u ≤ 999999999000) (hd : 99000 < d) (hr : Reads w a (ms.length * 3) (msgs ms)) :
    Calls Try.prog 6 #[.slice a ms.length cap, .agg #[.int .i64 d, .int .i64 u], .int .i64 more] w fun e w' => e = .returned (.bool true) ∧ Below w.heap.size w w' := by
  have HR0 := Lib.hid hr
  clear hr
  have hf1 : decide ((60 : Int) < (ms.length : Int)) = false := decide_eq_false (by omega)
  have HME := Lib.hid (fun (W : World) h => MessagesErr_any ms a cap W (by unfold maxLen; omega) h)
  have HCK := Lib.hid (fun (W : World) h => ClockErr_any ms a cap d u W (by unfold maxLen; omega) h)
  rw [hc] at HME
  rw [hck] at HCK
  go_enter Try.func6, Try.ntmps6
  go_wp2_with fail
  refine (awake_any _).mono ?_
  rintro e w1 ⟨rfl, hb⟩
  have HB := Lib.hid (bThen (bAlloc (bSelf w) (.cells #[.int .i64 d, .int .i64 u] 45)) hb)
  have K0 := Lib.hid ((Blk.new w #[.int .i64 d, .int .i64 u] 45).to hb)
  have HR := Lib.hid ((HR0.out.alloc (.cells #[.int .i64 d, .int .i64 u] 45)).to hb)
  clear hb
  go_wp2_with fail
  refine (HME.out _ HR.out).mono ?_
  rintro e w2 ⟨rfl, hb⟩
  replace K0 := Lib.hid (K0.out.to hb)
  replace HR := Lib.hid (HR.out.to hb)
  replace HB := Lib.hid (bThen HB.out hb)
  clear hb
  obtain ⟨-, k0, -⟩ := K0.out
  go_wp2_with fail
  refine (HCK.out _ HR.out).mono ?_
  rintro e w3 ⟨rfl, hb⟩
  replace K0 := Lib.hid (K0.out.to hb)
  replace HR := Lib.hid (HR.out.to hb)
  replace HB := Lib.hid (bThen HB.out hb)
  clear hb k0
  obtain ⟨-, k0, -⟩ := K0.out
  have hu1 : decide ((999999999000 : Int) < u) = false := decide_eq_false (by omega)
  have hd1 : decide ((99000 : Int) < d) = true := decide_eq_true hd
  go_wp2_with (go_at_call 33; refine (bWithin_any _ _ _ _).mono ?_; rintro e w' ⟨rfl, rfl⟩; rw [decide_eq_true hm1, decide_eq_true hm2])
  go_ret
  exact ⟨rfl, HB.out⟩

theorem HybridLate_any (ms : List Msg) (a : Option Addr) (cap : Nat) (d u more : Int) (w : World) (hlen : ms.length ≤ maxLen) (hr : Reads w a (ms.length * 3) (msgs ms)) :
    Calls Try.prog 6 #[.slice a ms.length cap, .agg #[.int .i64 d, .int .i64 u], .int .i64 more] w fun e w' => e = .returned (.bool true) ∧ Below w.heap.size w w' := by
  by_cases hfew : ms.length ≤ 60
  · by_cases hc : (chkM ms).2 = 0
    · by_cases hck : clkE ms d u = 0
      · by_cases hm : (decide (0 ≤ more) && decide (more ≤ 1000)) = true
        · simp only [Bool.and_eq_true, decide_eq_true_eq] at hm
          by_cases hu : u ≤ 999999999000
          · by_cases hd : d ≤ 99000
            · have hE : openE ms d u = 0 := by
                rcases open_split ms d u with ⟨h1, h2⟩ | ⟨h1, h2⟩
                · rw [← h2]; exact hck
                · exact absurd hc h1
              exact HybridLate_good ms a cap d u more w (openE_zero hE) hc hck hm.1 hm.2 hu hd hr
            · exact Late_e6 ms a cap d u more w hfew hc hck hm.1 hm.2 hu (by omega) hr
          · exact Late_e5 ms a cap d u more w hfew hc hck hm.1 hm.2 (by omega) hr
        · exact Late_e4 ms a cap d u more w hfew hc hck (by simpa using hm) hr
      · exact Late_e3 ms a cap d u more w hfew hc hck hr
    · exact Late_e2 ms a cap d u more w hfew hc hr
  · exact Late_e1 ms a cap d u more w hlen hfew

end Go.Proofs.Ytjieojkfpoiabaa
