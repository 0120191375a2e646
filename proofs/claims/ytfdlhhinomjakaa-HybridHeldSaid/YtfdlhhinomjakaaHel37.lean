/-
  Texts of this claim, in their build order: OM3.
-/
import Derived.Test.YtfdlhhinomjakaaHel36
import Derived.Test.YtfdlhhinomjakaaHel12
import Derived.Test.YtfdlhhinomjakaaHel24
import Derived.Test.YtfdlhhinomjakaaHel26
import Derived.Test.YtfdlhhinomjakaaHel0

namespace Go.Proofs.Ytfdlhhinomjakaa
section
open Go.RowKit
attribute [local go_sem] Oper.semAt_some

theorem isNaN_any (x : Int) (w : World) : Calls Try.prog 75 #[.int .i64 x] w fun e w' => e = .returned (.bool false) ∧ w = w' := by
  have hx : (x != x) = false := by simp
  go_enter Try.func75, Try.ntmps75
  go_wp2_with fail
  go_ret
  exact ⟨ret_bool (by simp), rfl⟩
def cmp2 (a b : Int) : Int := if a < b then -1 else if b < a then 1 else 0
theorem cmpInt_any (a b : Int) (w : World) : Calls Try.prog 61 #[.int .i64 a, .int .i64 b] w fun e w' => e = .returned (.int .i64 (cmp2 a b)) ∧ w = w' := by
  unfold cmp2
  by_cases h1 : a < b
  · rw [if_pos h1]
    have h1' := decide_eq_true h1
    go_enter Try.func61, Try.ntmps61
    go_wp2_with (go_at_call 75; refine (isNaN_any _ _).mono ?_; rintro e w' ⟨rfl, rfl⟩)
    go_ret
    exact ⟨rfl, rfl⟩
  · rw [if_neg h1]
    have h1' := decide_eq_false h1
    by_cases h2 : b < a
    · rw [if_pos h2]
      have h2' := decide_eq_true h2
      go_enter Try.func61, Try.ntmps61
      go_wp2_with (go_at_call 75; refine (isNaN_any _ _).mono ?_; rintro e w' ⟨rfl, rfl⟩)
      go_ret
      exact ⟨rfl, rfl⟩
    · rw [if_neg h2]
      have h2' := decide_eq_false h2
      go_enter Try.func61, Try.ntmps61
      go_wp2_with (go_at_call 75; refine (isNaN_any _ _).mono ?_; rintro e w' ⟨rfl, rfl⟩)
      go_ret
      exact ⟨rfl, rfl⟩

theorem cmpL_step {l m : List Int} {k : Nat} (h1 : k < l.length) (h2 : k < m.length) : cmpL (l.drop k) (m.drop k) = if cmp2 (gi l k) (gi m k) ≠ 0 then cmp2 (gi l k) (gi m k) else cmpL (l.drop (k + 1)) (m.drop (k + 1)) := by
  rw [gi_drop l k h1, gi_drop m k h2]
  unfold cmp2
  show (if gi l k < gi m k then _ else if gi m k < gi l k then _ else _) = _
  by_cases h : gi l k < gi m k
  · simp [h]
  · by_cases h' : gi m k < gi l k <;> simp [h, h']

set_option maxHeartbeats 1600000 in
set_option maxRecDepth 100000 in
theorem slCompare_any (l m : List Int) (a b : Option Addr) (ca cb : Nat) (w : World) (hl : l.length ≤ 100000) (_hm : m.length ≤ 100000) (ha : Reads w a l.length (ints l)) (hb : Reads w b m.length (ints m)) :
    Calls Try.prog 38 #[.slice a l.length ca, .slice b m.length cb] w fun e w' => e = .returned (.int .i64 (cmpL l m)) ∧ w = w' := by
  have HA := zH ha
  have HB := zH hb
  have HN : Hid (∀ k, k < l.length → k < m.length → cmpL (l.drop k) (m.drop k) = if cmp2 (gi l k) (gi m k) ≠ 0 then cmp2 (gi l k) (gi m k) else cmpL (l.drop (k + 1)) (m.drop (k + 1))) := zH (fun k => cmpL_step)
  have HE1 : Hid (∀ k, k = l.length → k = m.length → cmpL (l.drop k) (m.drop k) = 0) := zH (fun k h1 h2 => by rw [List.drop_of_length_le (by omega), List.drop_of_length_le (by omega)]; rfl)
  have HE2 : Hid (∀ k, k = l.length → k < m.length → cmpL (l.drop k) (m.drop k) = -1) := zH (fun k h1 h2 => by rw [List.drop_of_length_le (by omega), gi_drop m k h2]; rfl)
  have HE3 : Hid (∀ k, k < l.length → k = m.length → cmpL (l.drop k) (m.drop k) = 1) := zH (fun k h1 h2 => by rw [List.drop_of_length_le (l := m) (by omega), gi_drop l k h1]; rfl)
  clear ha hb
  have HC : Hid (cmpL l m = cmpL (l.drop 0) (m.drop 0)) := zH rfl
  obtain ⟨r, hr⟩ : ∃ r, cmpL l m = r := ⟨_, rfl⟩
  obtain ⟨n1, hn1⟩ : ∃ n, l.length = n := ⟨_, rfl⟩
  obtain ⟨n2, hn2⟩ : ∃ n, m.length = n := ⟨_, rfl⟩
  rw [hr] at HC ⊢
  rw [hn1] at HA HN HE1 HE2 HE3 hl ⊢
  rw [hn2] at HB HN HE1 HE2 HE3 ⊢
  clear hr hn1 hn2
  go_enter Try.func38, Try.ntmps38
  go_wp2_with fail
  go_loop [5, 6, 7, 8, 11] (fun _ _ _ _ i => ∃ k : Nat, k ≤ n1 ∧ k ≤ n2 ∧ i = .int .i64 k ∧ Hid (r = cmpL (l.drop k) (m.drop k))) (fun _ _ _ _ i => n1 - (intOf i).toNat)
  case atStart => exact ⟨0, Nat.zero_le _, Nat.zero_le _, rfl, HC⟩
  case round =>
    obtain ⟨k, hk1, hk2, rfl, hc⟩ := hrel
    by_cases hlt1 : k < n1
    · obtain ⟨b1, o1, rfl, hb1, hc1⟩ := HA.out.at hlt1
      have k1 : w.cell? ⟨b1, o1 + k, none⟩ = some (.int .i64 (gi l k)) := hc1 k hlt1
      clear hc1
      by_cases hlt2 : k < n2
      · obtain ⟨b2, o2, rfl, hb2, hc2⟩ := HB.out.at hlt2
        have k2 : w.cell? ⟨b2, o2 + k, none⟩ = some (.int .i64 (gi m k)) := hc2 k hlt2
        clear hc2
        have hge : decide ((n2 : Int) ≤ (k : Int)) = false := decide_eq_false (by omega)
        have HS := zH (HN.out k hlt1 hlt2)
        obtain ⟨c, hcc⟩ : ∃ c, cmp2 (gi l k) (gi m k) = c := ⟨_, rfl⟩
        have HCC := zH hcc
        rw [hcc] at HS
        clear hcc
        by_cases h0 : c = 0
        · have h0' : (c != 0) = false := by simpa using h0
          have H0 := zH h0
          clear h0
          go_wp2_with (go_at_call 61; refine (cmpInt_any _ _ _).mono ?_; rintro e w' ⟨rfl, rfl⟩; rw [HCC.out])
          go_round
          case rel => exact ⟨k + 1, by omega, by omega, by go_num, zH (hc.out.trans (HS.out.trans (by rw [H0.out]; rfl)))⟩
          case measure => simp [intOf]; omega
        · have h0' : (c != 0) = true := by simpa using h0
          have H0 := zH h0
          clear h0
          go_wp2_with (go_at_call 61; refine (cmpInt_any _ _ _).mono ?_; rintro e w' ⟨rfl, rfl⟩; rw [HCC.out])
          go_ret
          exact ⟨ret_int (by rw [hc.out, HS.out, if_pos H0.out]), rfl⟩
      · obtain rfl : n2 = k := by omega
        go_wp2_with fail
        go_ret
        exact ⟨ret_int (by rw [hc.out]; exact (HE3.out _ hlt1 rfl).symm), rfl⟩
    · obtain rfl : n1 = k := by omega
      by_cases hlt2 : n1 < n2
      · go_wp2_with fail
        go_ret
        exact ⟨ret_int (by rw [hc.out]; exact (HE2.out _ rfl hlt2).symm), rfl⟩
      · obtain rfl : n2 = n1 := by omega
        go_wp2_with fail
        go_ret
        exact ⟨ret_int (by rw [hc.out]; exact (HE1.out _ rfl rfl).symm), rfl⟩

theorem Clip_any (a : Option Addr) (n c : Nat) (w : World) (hn : n ≤ 100000) (hc : n ≤ c) (ha : a = none → n = 0) :
    Calls Try.prog 58 #[.slice a n c] w fun e w' => e = .returned (.slice a n n) ∧ w = w' := by
  cases a with
  | none =>
    obtain rfl := ha rfl
    go_enter Try.func58, Try.ntmps58
    go_wp2_with fail
    go_ret
    exact ⟨rfl, rfl⟩
  | some ad =>
    go_enter Try.func58, Try.ntmps58
    go_wp2_with fail
    go_ret
    exact ⟨rfl, rfl⟩
end
end Go.Proofs.Ytfdlhhinomjakaa
