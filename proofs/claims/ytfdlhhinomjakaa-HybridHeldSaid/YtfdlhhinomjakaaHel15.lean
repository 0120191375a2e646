/-
  Texts of this claim, in their build order: D2.
-/
import Derived.Test.YtfdlhhinomjakaaHel13
import Derived.Test.YtfdlhhinomjakaaHel14
import Derived.Test.YtfdlhhinomjakaaHel0

namespace Go.Proofs.Ytfdlhhinomjakaa
section
set_option maxRecDepth 100000
set_option maxHeartbeats 1600000
open Go.RowKit

def lastA (ms : List Msg) (k : Nat) : Int := if k = 0 then 0 else mA ms (k - 1)
def msE (ms : List Msg) (k : Nat) : Int := msgE k (mK ms k) (mS ms k) (mA ms k) (lastA ms k)
def chkM (ms : List Msg) : Int × Int := if 60 < ms.length then (0, 8) else eachR (msE ms) 0 ms.length

theorem CheckMessages_any (ms : List Msg) (a : Option Addr) (cap : Nat) (w : World) (hlen : ms.length ≤ maxLen) (hr : Reads w a (ms.length * 3) (msgs ms)) :
    Calls Try.prog 66 #[.slice a ms.length cap] w fun e w' => e = .returned (.tuple #[.int .i64 (chkM ms).1, .int .i64 (chkM ms).2]) ∧ Below w.heap.size w w' := by
  unfold maxLen at hlen
  have hR := zH hr
  clear hr
  by_cases hl : 60 < ms.length
  · have e1 : chkM ms = (0, 8) := by unfold chkM; rw [if_pos hl]
    rw [e1]
    go_enter Try.func66, Try.ntmps66
    go_wp2_with fail
    go_ret2
    exact ⟨rfl, bSelf w⟩
  · have e1 : chkM ms = eachR (msE ms) 0 ms.length := by unfold chkM; rw [if_neg hl]
    rw [e1]
    clear e1
    have hl2 : ms.length ≤ 60 := by omega
    go_enter Try.func66, Try.ntmps66
    go_wp2_with fail
    have HQ := (Blk.new w #[.int .i64 0] 3).set 0 (.int .i64 0)
    refine (each_msg ms a cap 77 _ _ (msE ms) (fun k w' => Blk w' w.heap.size #[.int .i64 (lastA ms k)] ∧ Below w.heap.size w w') (by omega) (by intro args w; go_simp) ⟨?_, ?_⟩ (fun k w' _ hI => hR.out.to hI.2) (fun k w' o hI => ⟨hI.1.alloc o, bAlloc hI.2 o⟩) (fun k w' hk hI => ?_)).mono ?_
    · first | exact HQ | exact Blk.new _ _ _
    · first | exact (bAlloc (bSelf w) _).setCell (p := ⟨w.heap.size, 0, none⟩) (Nat.le_refl _) _ | exact bAlloc (bSelf w) _
    · refine (msg1_any k _ _ _ _ _ w' (by omega) hI.1).mono ?_
      rintro e w2 ⟨rfl, h1, h2⟩
      exact ⟨rfl, by simpa [lastA] using h1, hI.2.trans h2⟩
    · rintro e w' ⟨rfl, k, hk, h1, h2⟩
      have h2 := zH h2
      go_wp2_with fail
      go_ret2
      exact ⟨rfl, h2.out⟩

/-- The error of messages and a clock. -/
def openE (ms : List Msg) (d u : Int) : Int :=
  firstE [(chkM ms).2, unl (decide (0 ≤ d) && decide (d ≤ 100000) && (decide (0 ≤ u) && decide (u ≤ 1000000000000))) 2, unl (decide (ms.length = 0) || decide (mA ms (ms.length - 1) ≤ u)) 22]

theorem openMessages_any (ms : List Msg) (a : Option Addr) (cap : Nat) (d u : Int) (w : World) (hlen : ms.length ≤ maxLen) (hr : Reads w a (ms.length * 3) (msgs ms)) :
    Calls Try.prog 48 #[.slice a ms.length cap, .agg #[.int .i64 d, .int .i64 u]] w fun e w' => e = .returned (.int .i64 (openE ms d u)) ∧ Below w.heap.size w w' := by
  have HCM := zH (fun (W : World) hr => CheckMessages_any ms a cap W hlen hr)
  have HE : Hid (openE ms d u = firstE [(chkM ms).2, unl (decide (0 ≤ d) && decide (d ≤ 100000) && (decide (0 ≤ u) && decide (u ≤ 1000000000000))) 2, unl (decide (ms.length = 0) || decide (mA ms (ms.length - 1) ≤ u)) 22]) := zH rfl
  unfold maxLen at hlen
  have hR := zH hr
  clear hr
  obtain ⟨c1, hc1⟩ : ∃ c1, (chkM ms).1 = c1 := ⟨_, rfl⟩
  obtain ⟨c2, hc2⟩ : ∃ c2, (chkM ms).2 = c2 := ⟨_, rfl⟩
  rw [hc1, hc2] at HCM
  rw [hc2] at HE
  clear hc1 hc2
  obtain ⟨oe, hoe⟩ : ∃ oe, openE ms d u = oe := ⟨_, rfl⟩
  rw [hoe] at HE ⊢
  clear hoe
  obtain ⟨m, hm⟩ : ∃ m, ms.length = m := ⟨_, rfl⟩
  rw [hm] at hR HCM HE hlen ⊢
  clear hm
  cases hd : (decide (0 ≤ d) && decide (d ≤ 100000))
  all_goals
    rw [hd] at HE
    have HD := zH hd
    clear hd
    rcases m with _ | n
  all_goals
    go_enter Try.func48, Try.ntmps48
    go_wp2_with fail
    obtain ⟨W, hW⟩ : ∃ W, w.alloc (.cells #[.int .i64 d, .int .i64 u] 56) = W := ⟨_, rfl⟩
    rw [hW]
    have K0 : Hid (Blk W w.heap.size #[.int .i64 d, .int .i64 u]) := by subst hW; exact Blk.new _ _ _
    have HB : Hid (Below w.heap.size w W) := by subst hW; exact bAlloc (bSelf w) _
    have hRW := zH (hR.out.alloc (.cells #[.int .i64 d, .int .i64 u] 56))
    rw [hW] at hRW
    clear hW
    refine (HCM.out W hRW.out).mono ?_
    rintro e w2 ⟨rfl, hb⟩
    replace K0 := zH (K0.out.to hb)
    replace hRW := zH (hRW.out.to hb)
    replace HB := zH (bThen HB.out hb)
    clear hb
  · go_wp2_with fail
    refine wp_region_quiet_tail 27 (fun w' => Below (World.heap w2).size (w2) w') (by kernel_rfl) (by kernel_rfl) (Below.refl _ _).drew ?_
    simp only [List.take_succ_cons, List.take_zero, List.drop_succ_cons, List.drop_zero]
    refine WQ.out ?_
    repeat (first | (refine WQ_no (by rfl) ?_; (simp only [Act.put, zzT, zzO, zzS])) | (refine WQ_yes (by rfl) ?_; apply Exists.intro; refine ⟨fun w1 hb1 => ?_, ?_⟩; (focus (((obtain ⟨-, k0, -⟩ := K0.out.to hb1); have hb1 := zH hb1; go_simp); (try (go_bits; try go_simp)); (try (rw [if_pos (by omega)]; try go_simp)); (first | done | ((first | (go_at_call 44; refine (within_any _ _ _ _).mono ?_; rintro e w' ⟨rfl, rfl⟩; first | exact ⟨by rw [HD.out], hb1.out⟩ | exact ⟨rfl, hb1.out⟩) | (go_at_call 67; refine (isTick_any _ _).mono ?_; rintro e w' ⟨rfl, rfl⟩; exact ⟨rfl, hb1.out⟩) | (go_at_call 33; refine (unless_any _ _ _).mono ?_; rintro e w' ⟨rfl, rfl⟩; exact ⟨rfl, hb1.out⟩))) | (with_reducible rfl) | exact rfl))); (simp only [Act.put, zzT, zzO, zzS])))
    refine WQ_nil ?_
    intro w1 hb1
    replace HB := zH (bThen HB.out hb1)
    clear hb1
    go_wp2_with fail
    refine (first3_new _ _ _ _ _ (by simp)).mono ?_
    rintro e w' ⟨rfl, rfl⟩
    go_wp2_with fail
    go_ret
    exact ⟨ret_int (by rw [HE.out]; first | rfl | simp), bAlloc HB.out _⟩
  · obtain ⟨b, off, rfl, hb, hc⟩ := hRW.out.at (k := n * 3) (by omega)
    have cc1 : Hid (w2.cell? ⟨b, off + n * 3 + 2, none⟩ = some (.int .i64 (mA ms n))) := zH ((hc (n * 3 + 2) (by omega)).trans (by rw [msgs2]))
    clear hc
    have hn1 : n < n + 1 := by omega
    have hmx : (if 0 < n then (n : Int) else 0) = n := by split <;> omega
    have hz1 : (((n : Int) + 1) == 0) = false := by rw [beq_eq_false_iff_ne]; omega
    go_wp2_with fail
    refine wp_region_quiet_tail 27 (fun w' => Below (World.heap w2).size (w2) w') (by kernel_rfl) (by kernel_rfl) (Below.refl _ _).drew ?_
    simp only [List.take_succ_cons, List.take_zero, List.drop_succ_cons, List.drop_zero]
    refine WQ.out ?_
    repeat (first | (refine WQ_no (by rfl) ?_; (simp only [Act.put, zzT, zzO, zzS])) | (refine WQ_yes (by rfl) ?_; apply Exists.intro; refine ⟨fun w1 hb1 => ?_, ?_⟩; (focus (((obtain ⟨-, k0, -⟩ := K0.out.to hb1; have k1 := (hb1.cell (p := ⟨b, off + n * 3 + 2, none⟩) hb).trans cc1.out); have hb1 := zH hb1; go_simp); (try (go_bits; try go_simp)); (try (rw [if_pos (by omega)]; try go_simp)); (first | done | ((first | (go_at_call 44; refine (within_any _ _ _ _).mono ?_; rintro e w' ⟨rfl, rfl⟩; first | exact ⟨by rw [HD.out], hb1.out⟩ | exact ⟨rfl, hb1.out⟩) | (go_at_call 67; refine (isTick_any _ _).mono ?_; rintro e w' ⟨rfl, rfl⟩; exact ⟨rfl, hb1.out⟩) | (go_at_call 33; refine (unless_any _ _ _).mono ?_; rintro e w' ⟨rfl, rfl⟩; exact ⟨rfl, hb1.out⟩))) | (with_reducible rfl) | exact rfl))); (simp only [Act.put, zzT, zzO, zzS])))
    refine WQ_nil ?_
    intro w1 hb1
    replace HB := zH (bThen HB.out hb1)
    clear hb1
    go_wp2_with fail
    refine (first3_new _ _ _ _ _ (by simp)).mono ?_
    rintro e w' ⟨rfl, rfl⟩
    go_wp2_with fail
    go_ret
    exact ⟨ret_int (by rw [HE.out]; first | rfl | simp), bAlloc HB.out _⟩
  · go_wp2_with fail
    refine wp_region_quiet_tail 27 (fun w' => Below (World.heap w2).size (w2) w') (by kernel_rfl) (by kernel_rfl) (Below.refl _ _).drew ?_
    simp only [List.take_succ_cons, List.take_zero, List.drop_succ_cons, List.drop_zero]
    refine WQ.out ?_
    repeat (first | (refine WQ_no (by rfl) ?_; (simp only [Act.put, zzT, zzO, zzS])) | (refine WQ_yes (by rfl) ?_; apply Exists.intro; refine ⟨fun w1 hb1 => ?_, ?_⟩; (focus (((obtain ⟨-, k0, -⟩ := K0.out.to hb1); have hb1 := zH hb1; go_simp); (try (go_bits; try go_simp)); (try (rw [if_pos (by omega)]; try go_simp)); (first | done | ((first | (go_at_call 44; refine (within_any _ _ _ _).mono ?_; rintro e w' ⟨rfl, rfl⟩; first | exact ⟨by rw [HD.out], hb1.out⟩ | exact ⟨rfl, hb1.out⟩) | (go_at_call 67; refine (isTick_any _ _).mono ?_; rintro e w' ⟨rfl, rfl⟩; exact ⟨rfl, hb1.out⟩) | (go_at_call 33; refine (unless_any _ _ _).mono ?_; rintro e w' ⟨rfl, rfl⟩; exact ⟨rfl, hb1.out⟩))) | (with_reducible rfl) | exact rfl))); (simp only [Act.put, zzT, zzO, zzS])))
    refine WQ_nil ?_
    intro w1 hb1
    replace HB := zH (bThen HB.out hb1)
    clear hb1
    go_wp2_with fail
    refine (first3_new _ _ _ _ _ (by simp)).mono ?_
    rintro e w' ⟨rfl, rfl⟩
    go_wp2_with fail
    go_ret
    exact ⟨ret_int (by rw [HE.out]; first | rfl | simp), bAlloc HB.out _⟩
  · obtain ⟨b, off, rfl, hb, hc⟩ := hRW.out.at (k := n * 3) (by omega)
    have cc1 : Hid (w2.cell? ⟨b, off + n * 3 + 2, none⟩ = some (.int .i64 (mA ms n))) := zH ((hc (n * 3 + 2) (by omega)).trans (by rw [msgs2]))
    clear hc
    have hn1 : n < n + 1 := by omega
    have hmx : (if 0 < n then (n : Int) else 0) = n := by split <;> omega
    have hz1 : (((n : Int) + 1) == 0) = false := by rw [beq_eq_false_iff_ne]; omega
    go_wp2_with fail
    refine wp_region_quiet_tail 27 (fun w' => Below (World.heap w2).size (w2) w') (by kernel_rfl) (by kernel_rfl) (Below.refl _ _).drew ?_
    simp only [List.take_succ_cons, List.take_zero, List.drop_succ_cons, List.drop_zero]
    refine WQ.out ?_
    repeat (first | (refine WQ_no (by rfl) ?_; (simp only [Act.put, zzT, zzO, zzS])) | (refine WQ_yes (by rfl) ?_; apply Exists.intro; refine ⟨fun w1 hb1 => ?_, ?_⟩; (focus (((obtain ⟨-, k0, -⟩ := K0.out.to hb1; have k1 := (hb1.cell (p := ⟨b, off + n * 3 + 2, none⟩) hb).trans cc1.out); have hb1 := zH hb1; go_simp); (try (go_bits; try go_simp)); (try (rw [if_pos (by omega)]; try go_simp)); (first | done | ((first | (go_at_call 44; refine (within_any _ _ _ _).mono ?_; rintro e w' ⟨rfl, rfl⟩; first | exact ⟨by rw [HD.out], hb1.out⟩ | exact ⟨rfl, hb1.out⟩) | (go_at_call 67; refine (isTick_any _ _).mono ?_; rintro e w' ⟨rfl, rfl⟩; exact ⟨rfl, hb1.out⟩) | (go_at_call 33; refine (unless_any _ _ _).mono ?_; rintro e w' ⟨rfl, rfl⟩; exact ⟨rfl, hb1.out⟩))) | (with_reducible rfl) | exact rfl))); (simp only [Act.put, zzT, zzO, zzS])))
    refine WQ_nil ?_
    intro w1 hb1
    replace HB := zH (bThen HB.out hb1)
    clear hb1
    go_wp2_with fail
    refine (first3_new _ _ _ _ _ (by simp)).mono ?_
    rintro e w' ⟨rfl, rfl⟩
    go_wp2_with fail
    go_ret
    exact ⟨ret_int (by rw [HE.out]; first | rfl | simp), bAlloc HB.out _⟩
end
end Go.Proofs.Ytfdlhhinomjakaa
