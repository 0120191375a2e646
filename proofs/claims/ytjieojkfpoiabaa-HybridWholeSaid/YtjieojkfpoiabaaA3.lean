/-
  each, at whole numbers; forcesErr and its reference.
-/
import Derived.Test.YtjieojkfpoiabaaA2
namespace Go.Proofs.Ytjieojkfpoiabaa
open Go.RowKit

theorem tuple2_eq {a b c d : Value} (h : a = c) (h' : b = d) : Ending.returned (.tuple #[a, b]) = .returned (.tuple #[c, d]) := by rw [h, h']

set_option maxHeartbeats 400000 in
theorem each_int (zs : List Int) (a : Option Addr) (cap fid : Nat) (q : Addr) (w : World) (err : Nat → Int) (I : Nat → World → Prop) (hlen : zs.length ≤ maxLen)
    (hcf : ∀ args w, Sem.run Try.prog (callFunc fid args) w = .ok (.enter fid args) w)
    (h0 : I 0 w) (hrd : ∀ k w', k < zs.length → I k w' → Reads w' a zs.length (ints zs))
    (hst : ∀ k w', k < zs.length → I k w' → Calls Try.prog fid #[.int .i64 k, .int .i64 (gi zs k), .pointer (some q)] w' fun e w'' => e = .returned (.int .i64 (err k)) ∧ I (k + 1) w'') :
    Calls Try.prog 96 #[.slice a zs.length cap, .func (.func fid) #[] #[.pointer (some q)]] w
      fun e w' => e = .returned (.tuple #[.int .i64 (eachR err 0 zs.length).1, .int .i64 (eachR err 0 zs.length).2]) ∧ ∃ k, k ≤ zs.length ∧ I k w' := by
  unfold maxLen at hlen
  have HRD := Lib.hid hrd
  have HST := Lib.hid hst
  have H0 := Lib.hid h0
  clear hrd hst h0
  go_enter Try.func96, Try.ntmps96
  go_wp2_with fail
  go_loopw [6, 7, 8, 11] (fun _ _ _ i wr => ∃ k : Nat, k ≤ zs.length ∧ i = .int .i64 k ∧ Hid (eachR err 0 zs.length = eachR err k (zs.length - k)) ∧ Hid (I k wr)) (fun _ _ _ i _ => zs.length - (intOf i).toNat)
  case atStart => exact ⟨0, Nat.zero_le _, rfl, Lib.hid rfl, H0⟩
  case round =>
    obtain ⟨k, hk, rfl, hr, hI⟩ := hrel
    by_cases hlt : k < zs.length
    · obtain ⟨b, off, rfl, hb, hc⟩ := (HRD.out k _ hlt hI.out).at hlt
      have h1 : wr.cell? ⟨b, off + k, none⟩ = some (.int .i64 (gi zs k)) := hc k hlt
      clear hc
      by_cases hz : err k = 0
      · have hz' : (err k != 0) = false := by simpa using hz
        have HZ := Lib.hid hz
        clear hz
        go_wp2_with fail
        refine (HST.out k _ hlt hI.out).mono ?_
        rintro e w' ⟨rfl, hI'⟩
        have hI' := Lib.hid hI'
        go_wp2_with fail
        go_roundw
        case rel => exact ⟨k + 1, by omega, by go_num, hr.out.trans (eachR_step hlt HZ.out), hI'⟩
        case measure => simp [intOf]; omega
      · have hz' : (err k != 0) = true := by simpa using hz
        have HZ := Lib.hid hz
        clear hz
        go_wp2_with fail
        refine (HST.out k _ hlt hI.out).mono ?_
        rintro e w' ⟨rfl, hI'⟩
        have hI' := Lib.hid hI'
        go_wp2_with fail
        go_ret2
        exact ⟨by rw [hr.out, eachR_stop hlt HZ.out]; rfl, k + 1, by omega, hI'⟩
    · have : k = zs.length := by omega
      subst this
      go_wp2
      go_ret2
      exact ⟨by rw [hr.out, Nat.sub_self]; rfl, zs.length, Nat.le_refl _, hI⟩

theorem forcesErr1_any (x : HT) (n k : Int) (p : Nat) (w : World)
    (hlo : w.cell? ⟨p, 7, none⟩ = some (.int .i64 x.lo)) (hhi : w.cell? ⟨p, 8, none⟩ = some (.int .i64 x.hi)) :
    Calls Try.prog 121 #[.int .i64 k, .int .i64 n, .pointer (some ⟨p, 0, none⟩)] w fun e w' => e = .returned (.int .i64 (unl (decide (x.lo ≤ n) && decide (n ≤ x.hi)) 2)) ∧ w = w' := by
  go_enter Try.func121, Try.ntmps121
  go_wp2_with (first | (go_at_call 77; refine (within_any _ _ _ _).mono ?_; rintro e w' ⟨rfl, rfl⟩) | (go_at_call 76; refine (unless_any _ _ _).mono ?_; rintro e w' ⟨rfl, rfl⟩))
  go_ret
  exact ⟨rfl, rfl⟩

/-- The error of a force, and of forces. -/
def forceE (x : HT) (zs : List Int) (k : Nat) : Int := unl (decide (x.lo ≤ gi zs k) && decide (gi zs k ≤ x.hi)) 2
def forcesE (x : HT) (zs : List Int) : Int := firstE [unl (decide ((zs.length : Int) ≤ 60)) 8, (eachR (forceE x zs) 0 zs.length).2]

set_option maxHeartbeats 400000 in
theorem forcesErr_any (x : HT) (zs : List Int) (a : Option Addr) (cap : Nat) (w : World) (hlen : zs.length ≤ maxLen) (hr : Reads w a zs.length (ints zs)) :
    Calls Try.prog 74 #[.agg x.cells, .slice a zs.length cap] w fun e w' => e = .returned (.int .i64 (forcesE x zs)) ∧ Below w.heap.size w w' := by
  have HL := Lib.hid hlen
  unfold maxLen at hlen
  have hR := Lib.hid hr
  clear hr
  go_enter Try.func74, Try.ntmps74
  go_wp2_with fail
  refine (each_int zs a cap 121 _ _ (forceE x zs) (fun _ w' => w' = w.alloc (.cells x.cells 25)) HL.out (by intro args w; go_simp) rfl (fun k w' hk hw => by subst hw; exact hR.out.alloc _) (fun k w' hk hw => by
    subst hw
    refine (forcesErr1_any x _ _ _ _ (by simp [World.cell?_alloc_new]) (by simp [World.cell?_alloc_new])).mono ?_
    rintro e w' ⟨rfl, rfl⟩
    exact ⟨rfl, rfl⟩)).mono ?_
  rintro e w' ⟨rfl, k, hk, rfl⟩
  go_wp2_with (first | (go_at_call 76; refine (unless_any _ _ _).mono ?_; rintro e w' ⟨rfl, rfl⟩))
  refine (first2_new _ _ _ _ (by simp)).mono ?_; rintro e w' ⟨rfl, rfl⟩
  go_wp2_with fail
  go_ret
  exact ⟨rfl, ((Below.refl _ _).alloc (Nat.le_refl _) _).alloc (by simp) _⟩

end Go.Proofs.Ytjieojkfpoiabaa
