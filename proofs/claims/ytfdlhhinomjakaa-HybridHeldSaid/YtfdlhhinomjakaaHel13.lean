/-
  Texts of this claim, in their build order: D1.
-/
import Derived.Test.YtfdlhhinomjakaaHel12
import Derived.Test.YtfdlhhinomjakaaHel0

namespace Go.Proofs.Ytfdlhhinomjakaa
section
set_option maxHeartbeats 1600000
open Go.RowKit

/-- A message: its kind, its step, its tick. -/
abbrev Msg := Int × Int × Int
def mg (l : List Msg) (i : Nat) : Msg := l.getD i (0, 0, 0)
def mK (l : List Msg) (i : Nat) : Int := (mg l i).1
def mS (l : List Msg) (i : Nat) : Int := (mg l i).2.1
def mA (l : List Msg) (i : Nat) : Int := (mg l i).2.2
def msgs (l : List Msg) (j : Nat) : Value := .int .i64 (if j % 3 = 0 then mK l (j / 3) else if j % 3 = 1 then mS l (j / 3) else mA l (j / 3))
theorem msgs0 (l : List Msg) (i : Nat) : msgs l (i * 3) = .int .i64 (mK l i) := by
  unfold msgs; rw [if_pos (by omega), show i * 3 / 3 = i by omega]
theorem msgs1 (l : List Msg) (i : Nat) : msgs l (i * 3 + 1) = .int .i64 (mS l i) := by
  unfold msgs; rw [if_neg (by omega), if_pos (by omega), show (i * 3 + 1) / 3 = i by omega]
theorem msgs2 (l : List Msg) (i : Nat) : msgs l (i * 3 + 2) = .int .i64 (mA l i) := by
  unfold msgs; rw [if_neg (by omega), if_neg (by omega), show (i * 3 + 2) / 3 = i by omega]

/-- The error of a message, at its place, with the tick of the one before. -/
def msgE (k : Nat) (K S A last : Int) : Int :=
  firstE [unl (decide (0 ≤ K) && decide (K ≤ 1)) 15, unl (decide (0 ≤ S) && decide (S ≤ 60) && (decide (0 ≤ A) && decide (A ≤ 1000000000000))) 2, unl (decide (last ≤ A)) 9, unl (decide (K = k % 2) && decide (S = k / 2)) 14]

set_option maxRecDepth 100000 in
theorem msg1_any (k : Nat) (K S A last : Int) (q : Nat) (w : World) (hk : k ≤ 1000) (hq : Blk w q #[.int .i64 last]) :
    Calls Try.prog 77 #[.int .i64 k, .agg #[.int .i64 K, .int .i64 S, .int .i64 A], .pointer (some ⟨q, 0, none⟩)] w fun e w' => e = .returned (.int .i64 (msgE k K S A last)) ∧
      Blk w' q #[.int .i64 A] ∧ Below q w w' := by
  have HQ := zH hq
  have hqs := hq.1
  clear hq
  go_enter Try.func77, Try.ntmps77
  go_wp2_with fail
  obtain ⟨W, hW⟩ : ∃ W, w.alloc (.cells #[.int .i64 K, .int .i64 S, .int .i64 A] 99) = W := ⟨_, rfl⟩
  rw [hW]
  have K0 : Hid (Blk W w.heap.size #[.int .i64 K, .int .i64 S, .int .i64 A]) := by subst hW; exact Blk.new _ _ _
  have HB : Hid (Below w.heap.size w W) := by subst hW; exact bAlloc (bSelf w) _
  replace HQ : Hid (Blk W q #[.int .i64 last]) := by subst hW; exact HQ.out.alloc _
  clear hW
  cases hS : (decide (0 ≤ S) && decide (S ≤ 60))
  all_goals
    have HS := zH hS
    clear hS
    cases hkb : (K == (k : Int) % 2)
  all_goals
    refine wp_region_quiet_tail 31 (fun w' => Below (World.heap W).size (W) w') (by kernel_rfl) (by kernel_rfl) (Below.refl _ _).drew ?_
    simp only [List.take_succ_cons, List.take_zero, List.drop_succ_cons, List.drop_zero]
    repeat (first | (refine wpQuiet_no (by rfl) ?_; (simp only [Act.put, zzT, zzO, zzS])) | (refine wpQuiet_yes (by rfl) ?_; apply Exists.intro; refine ⟨fun w1 hb1 => ?_, ?_⟩; (focus (((obtain ⟨-, k0, -⟩ := K0.out.to hb1; obtain ⟨-, k1, -⟩ := HQ.out.to hb1); have hb1 := zH hb1; go_simp); (try (go_bits; try go_simp)); (try (rw [if_pos (by omega)]; try go_simp)); (first | done | ((first | (go_at_call 44; refine (within_any _ _ _ _).mono ?_; rintro e w' ⟨rfl, rfl⟩; first | exact ⟨by rw [HS.out], hb1.out⟩ | exact ⟨rfl, hb1.out⟩) | (go_at_call 67; refine (isTick_any _ _).mono ?_; rintro e w' ⟨rfl, rfl⟩; exact ⟨rfl, hb1.out⟩) | (go_at_call 33; refine (unless_any _ _ _).mono ?_; rintro e w' ⟨rfl, rfl⟩; exact ⟨rfl, hb1.out⟩))) | (with_reducible rfl) | exact rfl))); (simp only [Act.put, zzT, zzO, zzS])))
    refine wpQuiet_nil ?_
    intro w1 hb1
    replace K0 := zH (K0.out.to hb1)
    replace HQ := zH (HQ.out.to hb1)
    have HB1 := zH (bThen HB.out hb1)
    obtain ⟨-, k0, -⟩ := K0.out
    obtain ⟨-, k1, kf1⟩ := HQ.out
    have hqs1 : q < w1.heap.size := HQ.out.1
    have hws1 : w.heap.size < w1.heap.size := K0.out.1
    clear hb1
    go_wp2_with fail
    refine (first4_new _ _ _ _ _ _ (by simp)).mono ?_
    rintro e w' ⟨rfl, rfl⟩
    go_wp2_with fail
    go_ret
    refine ⟨ret_int ?_, (HQ.out.set 0 _).alloc _, ((HB1.out.mono (Nat.le_of_lt hqs)).setCell (p := ⟨q, 0, none⟩) (Nat.le_refl _) _).alloc (by simp [World.setCell]; omega) _⟩
    unfold msgE
    rw [HS.out]
    have hkd : decide (K = (k : Int) % 2) = _ := hkb
    rw [hkd]
    simp only [Bool.true_and, Bool.false_and]
    try rfl

theorem each_msg (ms : List Msg) (a : Option Addr) (cap fid : Nat) (q : Addr) (w : World) (err : Nat → Int) (I : Nat → World → Prop) (hlen : ms.length ≤ 1000)
    (hcf : ∀ args w, Sem.run Try.prog (callFunc fid args) w = .ok (.enter fid args) w)
    (h0 : I 0 w) (hrd : ∀ k w', k < ms.length → I k w' → Reads w' a (ms.length * 3) (msgs ms)) (hal : ∀ k w' o, I k w' → I k (w'.alloc o))
    (hst : ∀ k w', k < ms.length → I k w' → Calls Try.prog fid #[.int .i64 k, .agg #[.int .i64 (mK ms k), .int .i64 (mS ms k), .int .i64 (mA ms k)], .pointer (some q)] w' fun e w'' => e = .returned (.int .i64 (err k)) ∧ I (k + 1) w'') :
    Calls Try.prog 76 #[.slice a ms.length cap, .func (.func fid) #[] #[.pointer (some q)]] w
      fun e w' => e = .returned (.tuple #[.int .i64 (eachR err 0 ms.length).1, .int .i64 (eachR err 0 ms.length).2]) ∧ ∃ k, k ≤ ms.length ∧ I k w' := by
  have HRD := zH hrd
  have HST := zH hst
  have HAL := zH hal
  have H0 := zH h0
  clear hrd hst h0 hal
  go_enter Try.func76, Try.ntmps76
  go_wp2_with fail
  go_loopw [6, 7, 8, 11] (fun _ _ _ i wr => ∃ k : Nat, k ≤ ms.length ∧ i = .int .i64 k ∧ Hid (eachR err 0 ms.length = eachR err k (ms.length - k)) ∧ Hid (I k wr)) (fun _ _ _ i _ => ms.length - (intOf i).toNat)
  case atStart => exact ⟨0, Nat.zero_le _, rfl, zH rfl, H0⟩
  case round =>
    obtain ⟨k, hk, rfl, hr, hI⟩ := hrel
    by_cases hlt : k < ms.length
    · obtain ⟨b, off, rfl, hb, hc⟩ := (HRD.out k _ hlt hI.out).at (k := k) (by omega)
      have c0 : wr.cell? ⟨b, off + k * 3, none⟩ = some (.int .i64 (mK ms k)) := (hc (k * 3) (by omega)).trans (by rw [msgs0])
      have c1 : wr.cell? ⟨b, off + k * 3 + 1, none⟩ = some (.int .i64 (mS ms k)) := (hc (k * 3 + 1) (by omega)).trans (by rw [msgs1])
      have c2 : wr.cell? ⟨b, off + k * 3 + 2, none⟩ = some (.int .i64 (mA ms k)) := (hc (k * 3 + 2) (by omega)).trans (by rw [msgs2])
      clear hc
      by_cases hz : err k = 0
      · have hz' : (err k != 0) = false := by simpa using hz
        have HZ := zH hz
        clear hz
        go_wp2_with fail
        refine (HST.out k _ hlt (HAL.out _ _ _ hI.out)).mono ?_
        rintro e w' ⟨rfl, hI'⟩
        have hI' := zH hI'
        go_wp2_with fail
        go_roundw
        case rel => exact ⟨k + 1, by omega, by go_num, hr.out.trans (eachR_step hlt HZ.out), hI'⟩
        case measure => simp [intOf]; omega
      · have hz' : (err k != 0) = true := by simpa using hz
        have HZ := zH hz
        clear hz
        go_wp2_with fail
        refine (HST.out k _ hlt (HAL.out _ _ _ hI.out)).mono ?_
        rintro e w' ⟨rfl, hI'⟩
        have hI' := zH hI'
        go_wp2_with fail
        go_ret2
        exact ⟨by rw [hr.out, eachR_stop hlt HZ.out]; rfl, k + 1, by omega, hI'⟩
    · have : k = ms.length := by omega
      subst this
      go_wp2
      go_ret2
      exact ⟨by rw [hr.out, Nat.sub_self]; rfl, ms.length, Nat.le_refl _, hI⟩
end
end Go.Proofs.Ytfdlhhinomjakaa
