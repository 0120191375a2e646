/-
  Texts of this claim, in their build order: OA2.
-/
import Derived.Test.YtjfedpblkejmkaaGreatSaf11
import Derived.Test.YtjfedpblkejmkaaGreatSaf6
import Derived.Outline

/-
  The each's of package oil: the index and the error of the first invalid item.
-/
namespace Go.Proofs.YtjfedpblkejmkaaGreat
open Go.RowKit

def sg (l : List OSt) (i : Nat) : OSt := l.getD i (0, false)
def osts (l : List OSt) (j : Nat) : Value := if j % 2 = 0 then .int .i64 (sg l (j / 2)).1 else .bool (sg l (j / 2)).2
theorem osts0 (l : List OSt) (i : Nat) : osts l (i * 2) = .int .i64 (sg l i).1 := by unfold osts; rw [if_pos (by omega), show i * 2 / 2 = i by omega]
theorem osts1 (l : List OSt) (i : Nat) : osts l (i * 2 + 1) = .bool (sg l i).2 := by unfold osts; rw [if_neg (by omega), show (i * 2 + 1) / 2 = i by omega]
def vg (l : List (Int × Int × Int)) (i : Nat) : Int × Int × Int := l.getD i (0, 0, 0)
def flws (l : List (Int × Int × Int)) (j : Nat) : Value := .int .i64 (if j % 3 = 0 then (vg l (j / 3)).1 else if j % 3 = 1 then (vg l (j / 3)).2.1 else (vg l (j / 3)).2.2)
theorem flws0 (l : List (Int × Int × Int)) (i : Nat) : flws l (i * 3) = .int .i64 (vg l i).1 := by unfold flws; rw [if_pos (by omega), show i * 3 / 3 = i by omega]
theorem flws1 (l : List (Int × Int × Int)) (i : Nat) : flws l (i * 3 + 1) = .int .i64 (vg l i).2.1 := by unfold flws; rw [if_neg (by omega), if_pos (by omega), show (i * 3 + 1) / 3 = i by omega]
theorem flws2 (l : List (Int × Int × Int)) (i : Nat) : flws l (i * 3 + 1 + 1) = .int .i64 (vg l i).2.2 := by unfold flws; rw [if_neg (by omega), if_neg (by omega), show (i * 3 + 1 + 1) / 3 = i by omega]

set_option maxHeartbeats 800000 in
set_option maxRecDepth 100000 in
theorem eachPt_any (l : List (Int × Int)) (a : Option Addr) (cap fid : Nat) (bx : Array Value) (w : World) (err : Nat → Int) (I : Nat → World → Prop) (hlen : l.length ≤ 100000)
    (hcf : ∀ args w, Sem.run Tryz.prog (callFunc fid args) w = .ok (.enter fid args) w)
    (h0 : I 0 w) (hrd : ∀ k w', k < l.length → I k w' → Reads w' a (l.length * 2) (fracs l)) (hal : ∀ k w' o, I k w' → I k (w'.alloc o))
    (hst : ∀ k w', k < l.length → I k w' → Calls Tryz.prog fid (#[.int .i64 k, .agg #[.int .i64 (fg l k).1, .int .i64 (fg l k).2]] ++ bx) w' fun e w'' => e = .returned (.int .i64 (err k)) ∧ I (k + 1) w'') :
    Calls Tryz.prog 132 #[.slice a l.length cap, .func (.func fid) #[] bx] w
      fun e w' => e = .returned (.tuple #[.int .i64 (eachR err 0 l.length).1, .int .i64 (eachR err 0 l.length).2]) ∧ ∃ k, k ≤ l.length ∧ I k w' ∧ ((eachR err 0 l.length).2 = 0 → k = l.length) := by
  have HRD := Lib.hid hrd
  have HST := Lib.hid hst
  have HAL := Lib.hid hal
  have H0 := Lib.hid h0
  clear hrd hst h0 hal
  go_enter Tryz.func132, Tryz.ntmps132
  go_wp2_with fail
  go_loopw [6, 7, 8, 11] (fun _ _ _ i wr => ∃ k : Nat, k ≤ l.length ∧ i = .int .i64 k ∧ Hid (eachR err 0 l.length = eachR err k (l.length - k)) ∧ Hid (I k wr)) (fun _ _ _ i _ => l.length - (intOf i).toNat)
  case atStart => exact ⟨0, Nat.zero_le _, rfl, Lib.hid rfl, H0⟩
  case round =>
    obtain ⟨k, hk, rfl, hr, hI⟩ := hrel
    by_cases hlt : k < l.length
    · obtain ⟨b, off, rfl, hb, hc⟩ := (HRD.out k _ hlt hI.out).at (k := k) (by omega)
      have c0 : wr.cell? ⟨b, off + k * 2, none⟩ = some (.int .i64 (fg l k).1) := by have := hc (k * 2) (by omega); rw [fracs0] at this; exact this
      have c1 : wr.cell? ⟨b, off + k * 2 + 1, none⟩ = some (.int .i64 (fg l k).2) := by have := hc (k * 2 + 1) (by omega); rw [fracs1] at this; exact this
      clear hc
      by_cases hz : err k = 0
      · have hz' : (err k != 0) = false := by simpa using hz
        have HZ := Lib.hid hz
        clear hz
        go_wp2_with fail
        refine (HST.out k _ hlt (HAL.out _ _ _ hI.out)).mono ?_
        rintro e w' ⟨rfl, hI'⟩
        have hI' := Lib.hid hI'
        go_wp2_with fail
        go_roundw
        case rel => exact ⟨k + 1, by omega, by go_num, hr.out.trans (eachR_step hlt HZ.out), hI'⟩
        case measure => simp [intOf]; omega
      · have hz' : (err k != 0) = true := by simpa using hz
        have HZ := Lib.hid hz
        clear hz
        go_wp2_with fail
        refine (HST.out k _ hlt (HAL.out _ _ _ hI.out)).mono ?_
        rintro e w' ⟨rfl, hI'⟩
        have hI' := Lib.hid hI'
        go_wp2_with fail
        go_ret2
        have HS := eachR_stop hlt HZ.out
        exact ⟨by rw [hr.out, HS]; rfl, k + 1, by omega, hI'.out, fun h => by rw [hr.out, HS] at h; exact absurd h HZ.out⟩
    · have : k = l.length := by omega
      subst this
      go_wp2
      go_ret2
      exact ⟨by rw [hr.out, Nat.sub_self]; rfl, l.length, Nat.le_refl _, hI.out, fun _ => rfl⟩

set_option maxHeartbeats 800000 in
set_option maxRecDepth 100000 in
theorem eachRg_any (l : List (Int × Int)) (a : Option Addr) (cap fid : Nat) (bx : Array Value) (w : World) (err : Nat → Int) (I : Nat → World → Prop) (hlen : l.length ≤ 100000)
    (hcf : ∀ args w, Sem.run Tryz.prog (callFunc fid args) w = .ok (.enter fid args) w)
    (h0 : I 0 w) (hrd : ∀ k w', k < l.length → I k w' → Reads w' a (l.length * 2) (fracs l)) (hal : ∀ k w' o, I k w' → I k (w'.alloc o))
    (hst : ∀ k w', k < l.length → I k w' → Calls Tryz.prog fid (#[.int .i64 k, .agg #[.int .i64 (fg l k).1, .int .i64 (fg l k).2]] ++ bx) w' fun e w'' => e = .returned (.int .i64 (err k)) ∧ I (k + 1) w'') :
    Calls Tryz.prog 142 #[.slice a l.length cap, .func (.func fid) #[] bx] w
      fun e w' => e = .returned (.tuple #[.int .i64 (eachR err 0 l.length).1, .int .i64 (eachR err 0 l.length).2]) ∧ ∃ k, k ≤ l.length ∧ I k w' ∧ ((eachR err 0 l.length).2 = 0 → k = l.length) := by
  have HRD := Lib.hid hrd
  have HST := Lib.hid hst
  have HAL := Lib.hid hal
  have H0 := Lib.hid h0
  clear hrd hst h0 hal
  go_enter Tryz.func142, Tryz.ntmps142
  go_wp2_with fail
  go_loopw [6, 7, 8, 11] (fun _ _ _ i wr => ∃ k : Nat, k ≤ l.length ∧ i = .int .i64 k ∧ Hid (eachR err 0 l.length = eachR err k (l.length - k)) ∧ Hid (I k wr)) (fun _ _ _ i _ => l.length - (intOf i).toNat)
  case atStart => exact ⟨0, Nat.zero_le _, rfl, Lib.hid rfl, H0⟩
  case round =>
    obtain ⟨k, hk, rfl, hr, hI⟩ := hrel
    by_cases hlt : k < l.length
    · obtain ⟨b, off, rfl, hb, hc⟩ := (HRD.out k _ hlt hI.out).at (k := k) (by omega)
      have c0 : wr.cell? ⟨b, off + k * 2, none⟩ = some (.int .i64 (fg l k).1) := by have := hc (k * 2) (by omega); rw [fracs0] at this; exact this
      have c1 : wr.cell? ⟨b, off + k * 2 + 1, none⟩ = some (.int .i64 (fg l k).2) := by have := hc (k * 2 + 1) (by omega); rw [fracs1] at this; exact this
      clear hc
      by_cases hz : err k = 0
      · have hz' : (err k != 0) = false := by simpa using hz
        have HZ := Lib.hid hz
        clear hz
        go_wp2_with fail
        refine (HST.out k _ hlt (HAL.out _ _ _ hI.out)).mono ?_
        rintro e w' ⟨rfl, hI'⟩
        have hI' := Lib.hid hI'
        go_wp2_with fail
        go_roundw
        case rel => exact ⟨k + 1, by omega, by go_num, hr.out.trans (eachR_step hlt HZ.out), hI'⟩
        case measure => simp [intOf]; omega
      · have hz' : (err k != 0) = true := by simpa using hz
        have HZ := Lib.hid hz
        clear hz
        go_wp2_with fail
        refine (HST.out k _ hlt (HAL.out _ _ _ hI.out)).mono ?_
        rintro e w' ⟨rfl, hI'⟩
        have hI' := Lib.hid hI'
        go_wp2_with fail
        go_ret2
        have HS := eachR_stop hlt HZ.out
        exact ⟨by rw [hr.out, HS]; rfl, k + 1, by omega, hI'.out, fun h => by rw [hr.out, HS] at h; exact absurd h HZ.out⟩
    · have : k = l.length := by omega
      subst this
      go_wp2
      go_ret2
      exact ⟨by rw [hr.out, Nat.sub_self]; rfl, l.length, Nat.le_refl _, hI.out, fun _ => rfl⟩

set_option maxHeartbeats 800000 in
set_option maxRecDepth 100000 in
theorem eachSt_any (l : List OSt) (a : Option Addr) (cap fid : Nat) (bx : Array Value) (w : World) (err : Nat → Int) (I : Nat → World → Prop) (hlen : l.length ≤ 100000)
    (hcf : ∀ args w, Sem.run Tryz.prog (callFunc fid args) w = .ok (.enter fid args) w)
    (h0 : I 0 w) (hrd : ∀ k w', k < l.length → I k w' → Reads w' a (l.length * 2) (osts l)) (hal : ∀ k w' o, I k w' → I k (w'.alloc o))
    (hst : ∀ k w', k < l.length → I k w' → Calls Tryz.prog fid (#[.int .i64 k, .agg #[.int .i64 (sg l k).1, .bool (sg l k).2]] ++ bx) w' fun e w'' => e = .returned (.int .i64 (err k)) ∧ I (k + 1) w'') :
    Calls Tryz.prog 127 #[.slice a l.length cap, .func (.func fid) #[] bx] w
      fun e w' => e = .returned (.tuple #[.int .i64 (eachR err 0 l.length).1, .int .i64 (eachR err 0 l.length).2]) ∧ ∃ k, k ≤ l.length ∧ I k w' ∧ ((eachR err 0 l.length).2 = 0 → k = l.length) := by
  have HRD := Lib.hid hrd
  have HST := Lib.hid hst
  have HAL := Lib.hid hal
  have H0 := Lib.hid h0
  clear hrd hst h0 hal
  go_enter Tryz.func127, Tryz.ntmps127
  go_wp2_with fail
  go_loopw [6, 7, 8, 11] (fun _ _ _ i wr => ∃ k : Nat, k ≤ l.length ∧ i = .int .i64 k ∧ Hid (eachR err 0 l.length = eachR err k (l.length - k)) ∧ Hid (I k wr)) (fun _ _ _ i _ => l.length - (intOf i).toNat)
  case atStart => exact ⟨0, Nat.zero_le _, rfl, Lib.hid rfl, H0⟩
  case round =>
    obtain ⟨k, hk, rfl, hr, hI⟩ := hrel
    by_cases hlt : k < l.length
    · obtain ⟨b, off, rfl, hb, hc⟩ := (HRD.out k _ hlt hI.out).at (k := k) (by omega)
      have c0 : wr.cell? ⟨b, off + k * 2, none⟩ = some (.int .i64 (sg l k).1) := by have := hc (k * 2) (by omega); rw [osts0] at this; exact this
      have c1 : wr.cell? ⟨b, off + k * 2 + 1, none⟩ = some (.bool (sg l k).2) := by have := hc (k * 2 + 1) (by omega); rw [osts1] at this; exact this
      clear hc
      by_cases hz : err k = 0
      · have hz' : (err k != 0) = false := by simpa using hz
        have HZ := Lib.hid hz
        clear hz
        go_wp2_with fail
        refine (HST.out k _ hlt (HAL.out _ _ _ hI.out)).mono ?_
        rintro e w' ⟨rfl, hI'⟩
        have hI' := Lib.hid hI'
        go_wp2_with fail
        go_roundw
        case rel => exact ⟨k + 1, by omega, by go_num, hr.out.trans (eachR_step hlt HZ.out), hI'⟩
        case measure => simp [intOf]; omega
      · have hz' : (err k != 0) = true := by simpa using hz
        have HZ := Lib.hid hz
        clear hz
        go_wp2_with fail
        refine (HST.out k _ hlt (HAL.out _ _ _ hI.out)).mono ?_
        rintro e w' ⟨rfl, hI'⟩
        have hI' := Lib.hid hI'
        go_wp2_with fail
        go_ret2
        have HS := eachR_stop hlt HZ.out
        exact ⟨by rw [hr.out, HS]; rfl, k + 1, by omega, hI'.out, fun h => by rw [hr.out, HS] at h; exact absurd h HZ.out⟩
    · have : k = l.length := by omega
      subst this
      go_wp2
      go_ret2
      exact ⟨by rw [hr.out, Nat.sub_self]; rfl, l.length, Nat.le_refl _, hI.out, fun _ => rfl⟩

set_option maxHeartbeats 800000 in
set_option maxRecDepth 100000 in
theorem eachFl_any (l : List (Int × Int × Int)) (a : Option Addr) (cap fid : Nat) (bx : Array Value) (w : World) (err : Nat → Int) (I : Nat → World → Prop) (hlen : l.length ≤ 100000)
    (hcf : ∀ args w, Sem.run Tryz.prog (callFunc fid args) w = .ok (.enter fid args) w)
    (h0 : I 0 w) (hrd : ∀ k w', k < l.length → I k w' → Reads w' a (l.length * 3) (flws l)) (hal : ∀ k w' o, I k w' → I k (w'.alloc o))
    (hst : ∀ k w', k < l.length → I k w' → Calls Tryz.prog fid (#[.int .i64 k, .agg #[.int .i64 (vg l k).1, .int .i64 (vg l k).2.1, .int .i64 (vg l k).2.2]] ++ bx) w' fun e w'' => e = .returned (.int .i64 (err k)) ∧ I (k + 1) w'') :
    Calls Tryz.prog 112 #[.slice a l.length cap, .func (.func fid) #[] bx] w
      fun e w' => e = .returned (.tuple #[.int .i64 (eachR err 0 l.length).1, .int .i64 (eachR err 0 l.length).2]) ∧ ∃ k, k ≤ l.length ∧ I k w' ∧ ((eachR err 0 l.length).2 = 0 → k = l.length) := by
  have HRD := Lib.hid hrd
  have HST := Lib.hid hst
  have HAL := Lib.hid hal
  have H0 := Lib.hid h0
  clear hrd hst h0 hal
  go_enter Tryz.func112, Tryz.ntmps112
  go_wp2_with fail
  go_loopw [6, 7, 8, 11] (fun _ _ _ i wr => ∃ k : Nat, k ≤ l.length ∧ i = .int .i64 k ∧ Hid (eachR err 0 l.length = eachR err k (l.length - k)) ∧ Hid (I k wr)) (fun _ _ _ i _ => l.length - (intOf i).toNat)
  case atStart => exact ⟨0, Nat.zero_le _, rfl, Lib.hid rfl, H0⟩
  case round =>
    obtain ⟨k, hk, rfl, hr, hI⟩ := hrel
    by_cases hlt : k < l.length
    · obtain ⟨b, off, rfl, hb, hc⟩ := (HRD.out k _ hlt hI.out).at (k := k) (by omega)
      have c0 : wr.cell? ⟨b, off + k * 3, none⟩ = some (.int .i64 (vg l k).1) := by have := hc (k * 3) (by omega); rw [flws0] at this; exact this
      have c1 : wr.cell? ⟨b, off + k * 3 + 1, none⟩ = some (.int .i64 (vg l k).2.1) := by have := hc (k * 3 + 1) (by omega); rw [flws1] at this; exact this
      have c2 : wr.cell? ⟨b, off + k * 3 + 1 + 1, none⟩ = some (.int .i64 (vg l k).2.2) := by have := hc (k * 3 + 1 + 1) (by omega); rw [flws2] at this; exact this
      clear hc
      by_cases hz : err k = 0
      · have hz' : (err k != 0) = false := by simpa using hz
        have HZ := Lib.hid hz
        clear hz
        go_wp2_with fail
        refine (HST.out k _ hlt (HAL.out _ _ _ hI.out)).mono ?_
        rintro e w' ⟨rfl, hI'⟩
        have hI' := Lib.hid hI'
        go_wp2_with fail
        go_roundw
        case rel => exact ⟨k + 1, by omega, by go_num, hr.out.trans (eachR_step hlt HZ.out), hI'⟩
        case measure => simp [intOf]; omega
      · have hz' : (err k != 0) = true := by simpa using hz
        have HZ := Lib.hid hz
        clear hz
        go_wp2_with fail
        refine (HST.out k _ hlt (HAL.out _ _ _ hI.out)).mono ?_
        rintro e w' ⟨rfl, hI'⟩
        have hI' := Lib.hid hI'
        go_wp2_with fail
        go_ret2
        have HS := eachR_stop hlt HZ.out
        exact ⟨by rw [hr.out, HS]; rfl, k + 1, by omega, hI'.out, fun h => by rw [hr.out, HS] at h; exact absurd h HZ.out⟩
    · have : k = l.length := by omega
      subst this
      go_wp2
      go_ret2
      exact ⟨by rw [hr.out, Nat.sub_self]; rfl, l.length, Nat.le_refl _, hI.out, fun _ => rfl⟩

end Go.Proofs.YtjfedpblkejmkaaGreat

