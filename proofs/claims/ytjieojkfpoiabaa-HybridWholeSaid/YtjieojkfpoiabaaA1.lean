/-
  Contracts of the small functions of package hybrid and of the base.
-/
import Derived.Test.YtjieojkfpoiabaaProg
import Derived.Test.YtjieojkfpoiabaaLib
import Derived.Lib.Hide
import Derived.Outline
namespace Go.Proofs.Ytjieojkfpoiabaa
open Go.RowKit

theorem within_any (n lo hi : Int) (w : World) :
    Calls Try.prog 77 #[.int .i64 n, .int .i64 lo, .int .i64 hi] w fun e w' => e = .returned (.bool (decide (lo ≤ n) && decide (n ≤ hi))) ∧ w = w' := by
  go_enter Try.func77, Try.ntmps77
  go_wp2
  all_goals (go_ret; exact ⟨ret_bool (by simp; omega), rfl⟩)

theorem sized_any (n m : Int) (w : World) (h0 : 0 ≤ m) (h1 : m ≤ 1000000000000000000) :
    Calls Try.prog 88 #[.int .i64 n, .int .i64 m] w fun e w' => e = .returned (.bool (decide (-m ≤ n) && decide (n ≤ m))) ∧ w = w' := by
  go_enter Try.func88, Try.ntmps88
  go_wp2_with (go_at_call 77; refine (within_any _ _ _ _).mono ?_; rintro e w' ⟨rfl, rfl⟩)
  go_ret
  exact ⟨rfl, rfl⟩

/-- 0 if it is so, else the error. -/
def unl (b : Bool) (k : Int) : Int := if b then 0 else k
theorem unless_any (b : Bool) (k : Int) (w : World) :
    Calls Try.prog 76 #[.bool b, .int .i64 k] w fun e w' => e = .returned (.int .i64 (unl b k)) ∧ w = w' := by
  go_enter Try.func76, Try.ntmps76
  cases b
  all_goals (go_wp2; go_ret; exact ⟨rfl, rfl⟩)

/-- The first number of a list that is not 0. -/
def firstE : List Int → Int
  | [] => 0
  | e :: l => if e = 0 then firstE l else e

theorem firstE_drop (es : List Int) (k : Nat) (hk : k < es.length) : firstE (es.drop k) = if gi es k = 0 then firstE (es.drop (k+1)) else gi es k := by
  rw [gi_drop es k hk]; rfl

set_option maxHeartbeats 400000 in
theorem first_any (es : List Int) (b off cap : Nat) (w : World) (hl : es.length ≤ 1000)
    (hc : ∀ i, i < es.length → w.cell? ⟨b, off + i, none⟩ = some (.int .i64 (gi es i))) :
    Calls Try.prog 73 #[.slice (some ⟨b, off, none⟩) es.length cap] w fun e w' => e = .returned (.int .i64 (firstE es)) ∧ w = w' := by
  go_enter Try.func73, Try.ntmps73
  have HC := Lib.hid hc
  clear hc
  go_wp2_with fail
  go_loop [4, 7] (fun _ i => ∃ k : Nat, k ≤ es.length ∧ i = .int .i64 k ∧ Hid (firstE es = firstE (es.drop k))) (fun _ i => es.length - (intOf i).toNat)
  case atStart => exact ⟨0, Nat.zero_le _, rfl, rfl⟩
  case round =>
    obtain ⟨k, hk, rfl, hr⟩ := hrel
    by_cases hlt : k < es.length
    · have h1 := HC.out k hlt
      have hd := Lib.hid (firstE_drop es k hlt)
      by_cases hz : gi es k = 0
      · have hz' : (gi es k != 0) = false := by simpa using hz
        have HZ := Lib.hid hz
        clear hz
        go_wp2
        go_round
        case rel => exact ⟨k + 1, by omega, by go_num, hr.out.trans (by rw [hd.out, if_pos HZ.out])⟩
        case measure => simp [intOf]; omega
      · have hz' : (gi es k != 0) = true := by simpa using hz
        have HZ := Lib.hid hz
        clear hz
        go_wp2
        go_ret
        exact ⟨ret_int (by rw [hr.out, hd.out, if_neg HZ.out]), rfl⟩
    · have : k = es.length := by omega
      subst this
      go_wp2
      go_ret
      exact ⟨ret_int (by rw [hr.out, List.drop_length]; rfl), rfl⟩

theorem first2_new (a b : Int) (w : World) (B : Nat) (hB : w.heap.size = B) :
    Calls Try.prog 73 #[.slice (some ⟨B, 0, none⟩) 2 2] (w.alloc (.cells #[.int .i64 a, .int .i64 b] 28)) fun e w' => e = .returned (.int .i64 (firstE [a, b])) ∧ w.alloc (.cells #[.int .i64 a, .int .i64 b] 28) = w' :=
  first_any [a, b] _ 0 2 _ (by simp) (fun i hi => by
    match i, hi with
    | 0, _ => subst hB; simp [World.cell?_alloc_new, gi]
    | 1, _ => subst hB; simp [World.cell?_alloc_new, gi])
theorem first3_new (a b c : Int) (w : World) (B : Nat) (hB : w.heap.size = B) :
    Calls Try.prog 73 #[.slice (some ⟨B, 0, none⟩) 3 3] (w.alloc (.cells #[.int .i64 a, .int .i64 b, .int .i64 c] 28)) fun e w' => e = .returned (.int .i64 (firstE [a, b, c])) ∧ w.alloc (.cells #[.int .i64 a, .int .i64 b, .int .i64 c] 28) = w' :=
  first_any [a, b, c] _ 0 3 _ (by simp) (fun i hi => by
    match i, hi with
    | 0, _ => subst hB; simp [World.cell?_alloc_new, gi]
    | 1, _ => subst hB; simp [World.cell?_alloc_new, gi]
    | 2, _ => subst hB; simp [World.cell?_alloc_new, gi])
theorem first4_new (a b c d : Int) (w : World) (B : Nat) (hB : w.heap.size = B) :
    Calls Try.prog 73 #[.slice (some ⟨B, 0, none⟩) 4 4] (w.alloc (.cells #[.int .i64 a, .int .i64 b, .int .i64 c, .int .i64 d] 28)) fun e w' => e = .returned (.int .i64 (firstE [a, b, c, d])) ∧ w.alloc (.cells #[.int .i64 a, .int .i64 b, .int .i64 c, .int .i64 d] 28) = w' :=
  first_any [a, b, c, d] _ 0 4 _ (by simp) (fun i hi => by
    match i, hi with
    | 0, _ => subst hB; simp [World.cell?_alloc_new, gi]
    | 1, _ => subst hB; simp [World.cell?_alloc_new, gi]
    | 2, _ => subst hB; simp [World.cell?_alloc_new, gi]
    | 3, _ => subst hB; simp [World.cell?_alloc_new, gi])

theorem isPart_any (n : Int) (w : World) :
    Calls Try.prog 87 #[.int .i64 n] w fun e w' => e = .returned (.bool (decide (0 ≤ n) && decide (n ≤ 1000))) ∧ w = w' := by
  go_enter Try.func87, Try.ntmps87
  go_wp2_with (go_at_call 77; refine (within_any _ _ _ _).mono ?_; rintro e w' ⟨rfl, rfl⟩)
  go_ret
  exact ⟨rfl, rfl⟩

theorem isTick_any (n : Int) (w : World) :
    Calls Try.prog 83 #[.int .i64 n] w fun e w' => e = .returned (.bool (decide (0 ≤ n) && decide (n ≤ 1000000000000))) ∧ w = w' := by
  go_enter Try.func83, Try.ntmps83
  go_wp2_with (go_at_call 77; refine (within_any _ _ _ _).mono ?_; rintro e w' ⟨rfl, rfl⟩)
  go_ret
  exact ⟨rfl, rfl⟩

theorem bWithin_any (n lo hi : Int) (w : World) :
    Calls Try.prog 33 #[.int .i64 n, .int .i64 lo, .int .i64 hi] w fun e w' => e = .returned (.bool (decide (lo ≤ n) && decide (n ≤ hi))) ∧ w = w' := by
  go_enter Try.func33, Try.ntmps33
  go_wp2
  all_goals (go_ret; exact ⟨ret_bool (by simp; omega), rfl⟩)

theorem bIsTick_any (n : Int) (w : World) :
    Calls Try.prog 86 #[.int .i64 n] w fun e w' => e = .returned (.bool (decide (0 ≤ n) && decide (n ≤ 1000000000000))) ∧ w = w' := by
  go_enter Try.func86, Try.ntmps86
  go_wp2_with (go_at_call 33; refine (bWithin_any _ _ _ _).mono ?_; rintro e w' ⟨rfl, rfl⟩)
  go_ret
  exact ⟨rfl, rfl⟩

end Go.Proofs.Ytjieojkfpoiabaa
