/-
  Texts of this claim, in their build order: R1.
-/
import Derived.Test.YtjieojkfpoiabaaHalves42

/-
  Contracts of the base: Mod, Compare at once, IsSmall; areLowest of the statements.
-/
namespace Go.Proofs.Ytjieojkfpoiabaa
open Go.RowKit

theorem mod_eq (n m : Int) (hm : 0 < m) : n % m = if n.tmod m < 0 then n.tmod m + m else n.tmod m := by
  have h1 := Int.tmod_add_mul_tdiv n m
  have h2 : (n.tmod m).natAbs < m.natAbs := by rw [Int.natAbs_tmod]; exact Nat.mod_lt _ (by omega)
  generalize n.tmod m = t at *
  generalize n.tdiv m = q at *
  rw [← h1, Int.add_mul_emod_self_left]
  by_cases h : t < 0
  · rw [if_pos h, ← Int.add_emod_right, Int.emod_eq_of_lt (by omega) (by omega)]
  · rw [if_neg h, Int.emod_eq_of_lt (by omega) (by omega)]

set_option maxHeartbeats 400000 in
theorem Mod_any (n m : Int) (w : World) (hm : 0 < m) (hm1 : m ≤ 1000) :
    Calls Try.prog 63 #[.int .i64 n, .int .i64 m] w fun e w' => e = .returned (.int .i64 (n % m)) ∧ w = w' := by
  have h2 : (n.tmod m).natAbs < m.natAbs := by rw [Int.natAbs_tmod]; exact Nat.mod_lt _ (by omega)
  have HE := Lib.hid (mod_eq n m hm)
  have hz : (m == 0) = false := by rw [beq_eq_false_iff_ne]; omega
  have hz2 : ¬ m = 0 := by omega
  have hng : ¬ (n = -9223372036854775808 ∧ m = -1) := by omega
  obtain ⟨r, hr⟩ : ∃ r, n % m = r := ⟨_, rfl⟩
  rw [hr] at HE ⊢
  clear hr
  obtain ⟨t, ht⟩ : ∃ t, n.tmod m = t := ⟨_, rfl⟩
  rw [ht] at HE h2
  by_cases hlt : t < 0
  · have hE : r = t + m := by rw [HE.out, if_pos hlt]
    have HR := Lib.hid hE
    clear hE
    go_enter Try.func63, Try.ntmps63
    go_wp2_with fail
    go_ret
    exact ⟨ret_int HR.out.symm, rfl⟩
  · have hE : r = t := by rw [HE.out, if_neg hlt]
    have HR := Lib.hid hE
    clear hE
    go_enter Try.func63, Try.ntmps63
    go_wp2_with fail
    go_ret
    exact ⟨ret_int HR.out.symm, rfl⟩

set_option maxHeartbeats 800000 in
/-- A fraction against a whole number that is not less. -/
theorem Compare_le (n d k : Int) (w : World) (hn0 : 0 < n) (hn1 : n ≤ 1000000000) (hd0 : 0 < d) (hd1 : d ≤ 1000000000) (hk0 : 1 ≤ k) (hk1 : k ≤ 20) (hle : n ≤ k * d) :
    Calls Try.prog 62 #[.int .i64 n, .int .i64 d, .int .i64 k, .int .i64 1] w fun e w' => (∃ c, e = .returned (.int .i64 c) ∧ c ≤ 0) ∧ w = w' := by
  have hq0 : 0 ≤ n / d := Int.ediv_nonneg (by omega) (by omega)
  have hq1 : n / d ≤ k := by
    have := Int.ediv_le_ediv hd0 hle
    rwa [Int.mul_ediv_cancel _ (by omega)] at this
  have HF1 := Lib.hid (fun W => bFloor_any n d W hd0 (by omega) (by omega) (by omega))
  have HF2 := Lib.hid (fun W => bFloor_any k 1 W (by omega) (by omega) (by omega) (by omega))
  rw [Int.ediv_one] at HF2
  have hEQ : n / d = k → n - k * d = 0 := fun h => by
    have h1 := Int.ediv_mul_le n (b := d) (by omega)
    rw [h] at h1
    omega
  have HEQ := Lib.hid hEQ
  obtain ⟨q, hq⟩ : ∃ q, n / d = q := ⟨_, rfl⟩
  rw [hq] at HF1 HEQ hq0 hq1
  clear hq hEQ hle
  go_enter Try.func62, Try.ntmps62
  go_wp2_with fail
  go_loopw [0, 1, 2, 3, 9, 10] (fun a b c e _ _ wr => a = .int .i64 n ∧ b = .int .i64 d ∧ c = .int .i64 k ∧ e = .int .i64 1 ∧ Hid (w = wr)) (fun _ _ _ _ _ _ _ => 0)
  case atStart => exact ⟨rfl, rfl, rfl, rfl, Lib.hid rfl⟩
  case round =>
    obtain ⟨rfl, rfl, rfl, rfl, hw⟩ := hrel
    go_wp2_with fail
    refine (HF1.out _).mono ?_
    rintro e w' ⟨rfl, rfl⟩
    go_wp2_with fail
    refine (HF2.out _).mono ?_
    rintro e w' ⟨rfl, rfl⟩
    by_cases hlt : q < k
    · go_wp2_with fail
      go_ret
      exact ⟨⟨-1, rfl, by decide⟩, hw.out⟩
    · have hqk : q = k := by omega
      subst hqk
      have hz := HEQ.out rfl
      have hm : q * d = n := by omega
      clear hz hlt
      go_wp2_with fail
      go_ret
      exact ⟨⟨0, rfl, by decide⟩, hw.out⟩

set_option maxHeartbeats 400000 in
theorem IsSmall_yes (p : Int × Int) (w : World) (hp : SmF p) :
    Calls Try.prog 115 #[.agg #[.int .i64 p.1, .int .i64 p.2]] w fun e w' => e = .returned (.bool true) ∧ Below w.heap.size w w' := by
  obtain ⟨n, d⟩ := p
  obtain ⟨n0, n1, d0, d1⟩ := hp
  dsimp only at n0 n1 d0 d1 ⊢
  have e1 : (decide (-1000000000 ≤ n) && decide (n ≤ 1000000000)) = true := by rw [decide_eq_true n0, decide_eq_true n1]; rfl
  have e2 : (decide (1 ≤ d) && decide (d ≤ 1000000000)) = true := by rw [decide_eq_true d0, decide_eq_true d1]; rfl
  have E1 := Lib.hid e1
  have E2 := Lib.hid e2
  clear e1 e2
  go_enter Try.func115, Try.ntmps115
  go_wp2_with fail
  refine (bWithin_any _ _ _ _).mono ?_
  rintro e w' ⟨rfl, rfl⟩
  rw [E1.out]
  go_wp2_with fail
  refine (bWithin_any _ _ _ _).mono ?_
  rintro e w' ⟨rfl, rfl⟩
  rw [E2.out]
  go_wp2_with fail
  go_ret
  exact ⟨rfl, bAlloc (bSelf w) _⟩

set_option maxHeartbeats 800000 in
theorem areLowest_yes (l : List (Int × Int)) (a : Option Addr) (cap : Nat) (w : World) (hlen : l.length ≤ 1000) (hl : ∀ k, k < l.length → lowB (fg l k).1 (fg l k).2 = true ∧ SmF (fg l k)) (hr : Reads w a (l.length * 2) (fracs l)) :
    Calls Try.prog 64 #[.slice a l.length cap] w fun e w' => e = .returned (.bool true) ∧ Below w.heap.size w w' := by
  have HR := Lib.hid hr
  have HL := Lib.hid hl
  clear hr hl
  go_enter Try.func64, Try.ntmps64
  go_wp2_with fail
  go_loopw [3] (fun iv wr => ∃ k : Nat, k ≤ l.length ∧ iv = .int .i64 k ∧ Hid (Below w.heap.size w wr)) (fun iv _ => l.length - (intOf iv).toNat)
  case atStart => exact ⟨0, Nat.zero_le _, rfl, Lib.hid (bSelf w)⟩
  case round =>
    obtain ⟨k, hk, rfl, hB⟩ := hrel
    by_cases hlt : k < l.length
    · have hltI : decide ((k : Int) < (l.length : Int)) = true := decide_eq_true (by omega)
      obtain ⟨b, off, rfl, hb', hc'⟩ := (HR.out.to hB.out).at (k := k * 2) (by omega)
      obtain ⟨hlo, hsm⟩ := HL.out k hlt
      have hsm2 := hsm
      obtain ⟨n0, n1, d0, d1⟩ := hsm2
      have HLO := Lib.hid (fun W => IsLowest_i64 (fg l k) W ⟨by omega, by omega, by omega, by omega⟩)
      have HSM := Lib.hid (fun W => IsSmall_yes (fg l k) W hsm)
      rw [hlo] at HLO
      obtain ⟨n, d, hnd⟩ : ∃ n d, fg l k = (n, d) := ⟨_, _, rfl⟩
      have KN : Hid (wr.cell? ⟨b, off + k * 2, none⟩ = some (.int .i64 n)) := Lib.hid (by rw [hc' _ (by omega), fracs0, hnd])
      have KD : Hid (wr.cell? ⟨b, off + k * 2 + 1, none⟩ = some (.int .i64 d)) := Lib.hid (by rw [Nat.add_assoc, hc' _ (by omega), fracs1, hnd])
      rw [hnd] at HLO HSM
      dsimp only at HLO HSM
      clear hc' hnd hlo hsm n0 n1 d0 d1
      have kn := KN.out
      have kd := KD.out
      go_wp2_with fail
      refine (HLO.out _).mono ?_
      rintro e w1 ⟨rfl, hb⟩
      replace KN := Lib.hid ((hb.cell (p := ⟨b, off + k * 2, none⟩) hb').trans KN.out)
      replace KD := Lib.hid ((hb.cell (p := ⟨b, off + k * 2 + 1, none⟩) hb').trans KD.out)
      have hB1 := Lib.hid (bThen hB.out hb)
      clear hb kn kd
      have kn := KN.out
      have kd := KD.out
      go_wp2_with fail
      refine (HSM.out _).mono ?_
      rintro e w2 ⟨rfl, hb⟩
      have hB2 := Lib.hid (bThen hB1.out hb)
      clear hb
      go_wp2_with fail
      go_roundw
      case rel => exact ⟨k + 1, by omega, by go_num, hB2⟩
      case measure => simp [intOf]; omega
    · have hltI : decide ((k : Int) < (l.length : Int)) = false := decide_eq_false (by omega)
      go_wp2_with fail
      go_ret
      exact ⟨rfl, hB.out⟩

end Go.Proofs.Ytjieojkfpoiabaa

