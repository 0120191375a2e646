/-
  For the statement HybridLate: Has, MessagesErr; laws on late steps.
-/
import Derived.Test.YtjieojkfpoiabaaH4
namespace Go.Proofs.Ytjieojkfpoiabaa
open Go.RowKit

set_option maxHeartbeats 400000 in
set_option maxRecDepth 100000 in
theorem Has_any (zs : List Int) (a : Option Addr) (cap : Nat) (n : Int) (w : World) (hlen : zs.length ≤ 100000) (hr : Reads w a zs.length (ints zs)) :
    Calls Try.prog 34 #[.slice a zs.length cap, .int .i64 n] w fun e w' => e = .returned (.bool (decide (n ∈ zs))) ∧ w = w' := by
  have HR := Lib.hid hr
  clear hr
  go_enter Try.func34, Try.ntmps34
  go_wp2_with fail
  go_loopw [5] (fun i wr => ∃ k : Nat, k ≤ zs.length ∧ i = .int .i64 k ∧ Hid (∀ j, j < k → gi zs j ≠ n) ∧ Hid (w = wr)) (fun i _ => zs.length - (intOf i).toNat)
  case atStart => exact ⟨0, Nat.zero_le _, rfl, Lib.hid (fun j h => absurd h (Nat.not_lt_zero _)), Lib.hid rfl⟩
  case round =>
    obtain ⟨k, hk, rfl, hn, hw⟩ := hrel
    by_cases hlt : k < zs.length
    · obtain ⟨b, off, rfl, hb, hc⟩ := HR.out.at hlt
      have h1 : wr.cell? ⟨b, off + k, none⟩ = some (.int .i64 (gi zs k)) := by rw [← hw.out]; exact hc k hlt
      clear hc
      by_cases he : gi zs k = n
      · have HE := Lib.hid he
        have hbq : (gi zs k == n) = true := by simpa using he
        clear he
        go_wp2_with fail
        go_ret
        refine ⟨ret_bool ?_, hw.out⟩
        rw [decide_eq_true]
        rw [← HE.out, gi_lt hlt]
        exact List.getElem_mem hlt
      · have HE := Lib.hid he
        have hbq : (gi zs k == n) = false := by simpa using he
        clear he
        go_wp2_with fail
        go_roundw
        case rel =>
          refine ⟨k + 1, by omega, by go_num, Lib.hid (fun j hj => ?_), hw⟩
          by_cases h : j = k
          · subst h; exact HE.out
          · exact hn.out j (by omega)
        case measure => simp [intOf]; omega
    · have : k = zs.length := by omega
      subst this
      go_wp2_with fail
      go_ret
      refine ⟨ret_bool ?_, hw.out⟩
      rw [decide_eq_false]
      intro hm
      obtain ⟨j, hj, he⟩ := List.getElem_of_mem hm
      exact hn.out j hj (by rw [gi_lt hj]; exact he)

theorem MessagesErr_any (ms : List Msg) (a : Option Addr) (cap : Nat) (w : World) (hlen : ms.length ≤ maxLen) (hr : Reads w a (ms.length * 3) (msgs ms)) :
    Calls Try.prog 32 #[.slice a ms.length cap] w fun e w' => e = .returned (.int .i64 (chkM ms).2) ∧ Below w.heap.size w w' := by
  have HR := Lib.hid hr
  clear hr
  go_enter Try.func32, Try.ntmps32
  go_wp2_with fail
  refine (rCheckMessages_any ms a cap w hlen HR.out).mono ?_
  rintro e w' ⟨rfl, hb⟩
  have HB := Lib.hid hb
  clear hb
  go_wp2_with fail
  go_ret
  exact ⟨rfl, HB.out⟩

theorem mem_lateN {ms : List Msg} {d u : Int} {k : Nat} : ((k : Int) ∈ lateN ms d u) ↔ (k < (ms.length + 1) / 2 ∧ isLate ms d u k = true) := by
  unfold lateN lateJ
  simp only [List.mem_map, List.mem_filter, List.mem_range]
  constructor
  · rintro ⟨j, hj, he⟩
    have : j = k := by omega
    subst this
    exact hj
  · intro h; exact ⟨k, h, rfl⟩
theorem lateN_nat {ms : List Msg} {d u : Int} {i : Nat} (h : i < (lateN ms d u).length) : ∃ k : Nat, gi (lateN ms d u) i = k ∧ k < (ms.length + 1) / 2 ∧ isLate ms d u k = true := by
  have h1 : gi (lateN ms d u) i ∈ lateN ms d u := by rw [gi_lt h]; exact List.getElem_mem h
  unfold lateN at h1
  obtain ⟨k, hk, he⟩ := List.mem_map.1 h1
  refine ⟨k, ?_, ?_⟩
  · unfold lateN; exact he.symm
  · have := List.mem_filter.1 hk
    simpa using this
theorem late_longer {ms : List Msg} {d u more : Int} {k : Nat} (hm : 0 ≤ more) (h : isLate ms (d + more) u k = true) : isLate ms d u k = true := by
  unfold isLate at *
  have := of_decide_eq_true h
  exact decide_eq_true (by omega)
theorem late_later {ms : List Msg} {d u more : Int} {k : Nat} (hm : 0 ≤ more) (h : isLate ms d u k = true) : isLate ms d (u + more) k = true := by
  unfold isLate endA at *
  have := of_decide_eq_true h
  refine decide_eq_true ?_
  split
  · rename_i h1; rw [if_pos h1] at this; exact this
  · rename_i h1; rw [if_neg h1] at this; omega
theorem inT_late {ms : List Msg} {d u : Int} {j : Nat} (h : inT ms d j) : isLate ms d u j = false := by
  unfold isLate endA
  rw [if_pos h.1]
  exact decide_eq_false (by have := h.2; omega)
theorem inT_dec (ms : List Msg) (d : Int) (j : Nat) : inT ms d j ∨ ¬ inT ms d j := by
  by_cases h : inT ms d j
  · exact .inl h
  · exact .inr h
theorem inT_first (ms : List Msg) (d : Int) : ∃ n, (∀ j, j < n → inT ms d j) ∧ ¬ inT ms d n := by
  have h : ∀ N, (∃ n, n ≤ N ∧ (∀ j, j < n → inT ms d j) ∧ ¬ inT ms d n) ∨ (∀ j, j ≤ N → inT ms d j) := by
    intro N
    induction N with
    | zero =>
      rcases inT_dec ms d 0 with h | h
      · exact .inr (fun j hj => by have : j = 0 := by omega
                                   subst this; exact h)
      · exact .inl ⟨0, Nat.le_refl _, fun j hj => absurd hj (Nat.not_lt_zero _), h⟩
    | succ N ih =>
      rcases ih with ⟨n, h1, h2, h3⟩ | h
      · exact .inl ⟨n, by omega, h2, h3⟩
      · rcases inT_dec ms d (N + 1) with h' | h'
        · exact .inr (fun j hj => by
            by_cases hj' : j = N + 1
            · subst hj'; exact h'
            · exact h j (by omega))
        · exact .inl ⟨N + 1, Nat.le_refl _, fun j hj => h j (by omega), h'⟩
  rcases h ms.length with ⟨n, _, h2, h3⟩ | h
  · exact ⟨n, h2, h3⟩
  · exact absurd (h ms.length (Nat.le_refl _)).1 (by omega)
/-- What is said of the count. -/
theorem count_spec {ms : List Msg} {d u : Int} (h : MsOk ms d u) : ∃ n : Nat, countE ms d u = n ∧ n ≤ ms.length / 2 ∧ (∀ k, k < n → isLate ms d u k = false ∧ 2 * k + 1 < ms.length) ∧ (∀ j, j < n → inT ms d j) := by
  obtain ⟨n, h1, h2⟩ := inT_first ms d
  refine ⟨n, count_eq h h1 h2, ?_, fun k hk => ⟨inT_late (h1 k hk), (h1 k hk).1⟩, h1⟩
  rcases n with _ | n
  · omega
  · have := (h1 n (by omega)).1; omega
theorem count_longer {ms : List Msg} {d u more : Int} (hm : 0 ≤ more) (h : MsOk ms d u) (h' : MsOk ms (d + more) u) : countE ms d u ≤ countE ms (d + more) u := by
  obtain ⟨n, h1, h2⟩ := inT_first ms d
  obtain ⟨n', h1', h2'⟩ := inT_first ms (d + more)
  rw [count_eq h h1 h2, count_eq h' h1' h2']
  have : n ≤ n' := by
    rcases Nat.lt_or_ge n' n with hlt | hge
    · have := h1 n' hlt
      exact absurd ⟨this.1, by have := this.2; omega⟩ h2'
    · exact hge
  omega
theorem late_first {ms : List Msg} {d u : Int} (h : MsOk ms d u) : (lateN ms d u = [] ∧ countE ms d u = ((ms.length / 2 : Nat) : Int) ∧ heldE ms d u = (0, 12)) ∨
    (∃ (j : Nat) (l : List Int), lateN ms d u = (j : Int) :: l ∧ countE ms d u = j ∧ j < (ms.length + 1) / 2 ∧ heldE ms d u = (mA ms (2 * j) + d + 1, 0)) := by
  cases hJ : lateJ ms d u with
  | nil =>
    have hz : (lateMs ms d u).length = 0 := by unfold lateMs; rw [hJ]; rfl
    exact .inl ⟨by unfold lateN; rw [hJ]; rfl, by unfold countE; rw [if_pos hz], by unfold heldE; rw [if_pos hz]⟩
  | cons j l =>
    have hz : ¬ (lateMs ms d u).length = 0 := by unfold lateMs; rw [hJ]; simp
    obtain ⟨hjN, -, -⟩ := filter_first (show (List.range ((ms.length + 1) / 2)).filter (isLate ms d u) = j :: l from hJ)
    have e1 : mS (lateMs ms d u) 0 = mS ms (2 * j) := by unfold lateMs; rw [hJ]; rfl
    have e2 : mA (lateMs ms d u) 0 = mA ms (2 * j) := by unfold lateMs; rw [hJ]; rfl
    refine .inr ⟨j, l.map (fun j : Nat => (j : Int)), by unfold lateN; rw [hJ]; rfl, ?_, hjN, ?_⟩
    · unfold countE; rw [if_neg hz, e1, (h.step (2 * j) (by omega)).1]; omega
    · unfold heldE; rw [if_neg hz, e2]
theorem MsOk.longer {ms : List Msg} {d u more : Int} (h : MsOk ms d u) (h1 : 0 ≤ more) (h2 : d + more ≤ 100000) : MsOk ms (d + more) u :=
  ⟨h.len, h.tick, h.step, h.ord, by have := h.d1; omega, h2, h.u1, h.u2, h.last⟩
theorem MsOk.later {ms : List Msg} {d u more : Int} (h : MsOk ms d u) (h1 : 0 ≤ more) (h2 : u + more ≤ 1000000000000) : MsOk ms d (u + more) :=
  ⟨h.len, h.tick, h.step, h.ord, h.d1, h.d2, by have := h.u1; omega, h2, by have := h.last; omega⟩
theorem open_of_ok {ms : List Msg} {d u : Int} (hc : (chkM ms).2 = 0) (h : MsOk ms d u) : openE ms d u = 0 := by
  have h1 : (decide (0 ≤ d) && decide (d ≤ 100000) && (decide (0 ≤ u) && decide (u ≤ 1000000000000))) = true := by
    simp only [Bool.and_eq_true, decide_eq_true_eq]; exact ⟨⟨h.d1, h.d2⟩, h.u1, h.u2⟩
  have h2 : (decide (ms.length = 0) || decide (mA ms (ms.length - 1) ≤ u)) = true := by
    simp only [Bool.or_eq_true, decide_eq_true_eq]; exact h.last
  unfold openE
  rw [hc, h1, h2]
  rfl

end Go.Proofs.Ytjieojkfpoiabaa
