/-
  Texts of this claim, in their build order: D2 D3.
-/
import Derived.Test.YtjieojkfpoiabaaHalves9
import Derived.Test.YtjieojkfpoiabaaHalves10
import Derived.Test.YtjieojkfpoiabaaHalves5

/-
  CheckMessages and openMessages.
-/
namespace Go.Proofs.Ytjieojkfpoiabaa
open Go.RowKit

def lastA (ms : List Msg) (k : Nat) : Int := if k = 0 then 0 else mA ms (k - 1)
def msE (ms : List Msg) (k : Nat) : Int := msgE k (mK ms k) (mS ms k) (mA ms k) (lastA ms k)
def chkM (ms : List Msg) : Int × Int := if 60 < ms.length then (0, 8) else eachR (msE ms) 0 ms.length

set_option maxHeartbeats 400000 in
set_option maxRecDepth 100000 in
theorem CheckMessages_any (ms : List Msg) (a : Option Addr) (cap : Nat) (w : World) (hlen : ms.length ≤ maxLen) (hr : Reads w a (ms.length * 3) (msgs ms)) :
    Calls Try.prog 22 #[.slice a ms.length cap] w fun e w' => e = .returned (.tuple #[.int .i64 (chkM ms).1, .int .i64 (chkM ms).2]) ∧ Below w.heap.size w w' := by
  unfold maxLen at hlen
  have hR := Lib.hid hr
  clear hr
  by_cases hl : 60 < ms.length
  · have e1 : chkM ms = (0, 8) := by unfold chkM; rw [if_pos hl]
    rw [e1]
    go_enter Try.func22, Try.ntmps22
    go_wp2_with fail
    go_ret2
    exact ⟨rfl, bSelf w⟩
  · have e1 : chkM ms = eachR (msE ms) 0 ms.length := by unfold chkM; rw [if_neg hl]
    rw [e1]
    clear e1
    have hl2 : ms.length ≤ 60 := by omega
    go_enter Try.func22, Try.ntmps22
    go_wp2_with fail
    have HQ := (Blk.new w #[.int .i64 0] 3).set 0 (.int .i64 0)
    refine (each_msg ms a cap 82 _ _ (msE ms) (fun k w' => Blk w' w.heap.size #[.int .i64 (lastA ms k)] ∧ Below w.heap.size w w') (by omega) (by intro args w; go_simp) ⟨?_, ?_⟩ (fun k w' _ hI => hR.out.to hI.2) (fun k w' o hI => ⟨hI.1.alloc o, bAlloc hI.2 o⟩) (fun k w' hk hI => ?_)).mono ?_
    · first | exact HQ | exact Blk.new _ _ _
    · first | exact (bAlloc (bSelf w) _).setCell (p := ⟨w.heap.size, 0, none⟩) (Nat.le_refl _) _ | exact bAlloc (bSelf w) _
    · refine (msg1_any k _ _ _ _ _ w' (by omega) hI.1).mono ?_
      rintro e w2 ⟨rfl, h1, h2⟩
      exact ⟨rfl, by simpa [lastA] using h1, hI.2.trans h2⟩
    · rintro e w' ⟨rfl, k, hk, h1, h2⟩
      have h2 := Lib.hid h2
      go_wp2_with fail
      go_ret2
      exact ⟨rfl, h2.out⟩

/-- The error of messages and a clock. -/
def openE (ms : List Msg) (d u : Int) : Int :=
  firstE [(chkM ms).2, unl (decide (0 ≤ d) && decide (d ≤ 100000) && (decide (0 ≤ u) && decide (u ≤ 1000000000000))) 2, unl (decide (ms.length = 0) || decide (mA ms (ms.length - 1) ≤ u)) 22]

set_option maxHeartbeats 1600000 in
set_option maxRecDepth 100000 in
theorem openMessages_any (ms : List Msg) (a : Option Addr) (cap : Nat) (d u : Int) (w : World) (hlen : ms.length ≤ maxLen) (hr : Reads w a (ms.length * 3) (msgs ms)) :
    Calls Try.prog 84 #[.slice a ms.length cap, .agg #[.int .i64 d, .int .i64 u]] w fun e w' => e = .returned (.int .i64 (openE ms d u)) ∧ Below w.heap.size w w' := by
  have HCM := Lib.hid (fun (W : World) hr => CheckMessages_any ms a cap W hlen hr)
  have HE : Hid (openE ms d u = firstE [(chkM ms).2, unl (decide (0 ≤ d) && decide (d ≤ 100000) && (decide (0 ≤ u) && decide (u ≤ 1000000000000))) 2, unl (decide (ms.length = 0) || decide (mA ms (ms.length - 1) ≤ u)) 22]) := Lib.hid rfl
  unfold maxLen at hlen
  have hR := Lib.hid hr
  clear hr
  obtain ⟨c1, hc1⟩ : ∃ c1, (chkM ms).1 = c1 := ⟨_, rfl⟩
  obtain ⟨c2, hc2⟩ : ∃ c2, (chkM ms).2 = c2 := ⟨_, rfl⟩
  rw [hc1, hc2] at HCM
  rw [hc2] at HE
  clear hc1 hc2
  obtain ⟨oe, hoe⟩ : ∃ oe, openE ms d u = oe := ⟨_, rfl⟩
  rw [hoe] at HE ⊢
  clear hoe
  obtain ⟨m, hm⟩ : ∃ m, ms.length = m := ⟨_, rfl⟩
  rw [hm] at hR HCM HE hlen ⊢
  clear hm
  cases hd : (decide (0 ≤ d) && decide (d ≤ 100000))
  all_goals
    rw [hd] at HE
    have HD := Lib.hid hd
    clear hd
    rcases m with _ | n
  all_goals
    go_enter Try.func84, Try.ntmps84
    go_wp2_with fail
    obtain ⟨W, hW⟩ : ∃ W, w.alloc (.cells #[.int .i64 d, .int .i64 u] 45) = W := ⟨_, rfl⟩
    rw [hW]
    have K0 : Hid (Blk W w.heap.size #[.int .i64 d, .int .i64 u]) := by subst hW; exact Blk.new _ _ _
    have HB : Hid (Below w.heap.size w W) := by subst hW; exact bAlloc (bSelf w) _
    have hRW := Lib.hid (hR.out.alloc (.cells #[.int .i64 d, .int .i64 u] 45))
    rw [hW] at hRW
    clear hW
    refine (HCM.out W hRW.out).mono ?_
    rintro e w2 ⟨rfl, hb⟩
    replace K0 := Lib.hid (K0.out.to hb)
    replace hRW := Lib.hid (hRW.out.to hb)
    replace HB := Lib.hid (bThen HB.out hb)
    clear hb
  · go_wp2_with fail
    refine wp_region_quiet_tail 27 (fun w' => Below (World.heap w2).size (w2) w') (by kernel_rfl) (by kernel_rfl) (Below.refl _ _).drew ?_
    simp only [List.take_succ_cons, List.take_zero, List.drop_succ_cons, List.drop_zero]
    refine WQ.out ?_
    repeat (first | (refine WQ_no (by rfl) ?_; (simp only [Act.put, List.setIfInBounds_toArray, List.set_cons_zero, List.set_cons_succ])) | (refine WQ_yes (by rfl) ?_; apply Exists.intro; refine ⟨fun w1 hb1 => ?_, ?_⟩; (focus (((obtain ⟨-, k0, -⟩ := K0.out.to hb1); have hb1 := Lib.hid hb1; go_simp); (try (go_bits; try go_simp)); (try (rw [if_pos (by omega)]; try go_simp)); (first | done | ((first | (go_at_call 77; refine (within_any _ _ _ _).mono ?_; rintro e w' ⟨rfl, rfl⟩; first | exact ⟨by rw [HD.out], hb1.out⟩ | exact ⟨rfl, hb1.out⟩) | (go_at_call 83; refine (isTick_any _ _).mono ?_; rintro e w' ⟨rfl, rfl⟩; exact ⟨rfl, hb1.out⟩) | (go_at_call 76; refine (unless_any _ _ _).mono ?_; rintro e w' ⟨rfl, rfl⟩; exact ⟨rfl, hb1.out⟩))) | (with_reducible rfl) | exact rfl))); (simp only [Act.put, List.setIfInBounds_toArray, List.set_cons_zero, List.set_cons_succ])))
    refine WQ_nil ?_
    intro w1 hb1
    replace HB := Lib.hid (bThen HB.out hb1)
    clear hb1
    go_wp2_with fail
    refine (first3_new _ _ _ _ _ (by simp)).mono ?_
    rintro e w' ⟨rfl, rfl⟩
    go_wp2_with fail
    go_ret
    exact ⟨ret_int (by rw [HE.out]; first | rfl | simp), bAlloc HB.out _⟩
  · obtain ⟨b, off, rfl, hb, hc⟩ := hRW.out.at (k := n * 3) (by omega)
    have cc1 : Hid (w2.cell? ⟨b, off + n * 3 + 2, none⟩ = some (.int .i64 (mA ms n))) := Lib.hid ((hc (n * 3 + 2) (by omega)).trans (by rw [msgs2]))
    clear hc
    have hn1 : n < n + 1 := by omega
    have hmx : (if 0 < n then (n : Int) else 0) = n := by split <;> omega
    have hz1 : (((n : Int) + 1) == 0) = false := by rw [beq_eq_false_iff_ne]; omega
    go_wp2_with fail
    refine wp_region_quiet_tail 27 (fun w' => Below (World.heap w2).size (w2) w') (by kernel_rfl) (by kernel_rfl) (Below.refl _ _).drew ?_
    simp only [List.take_succ_cons, List.take_zero, List.drop_succ_cons, List.drop_zero]
    refine WQ.out ?_
    repeat (first | (refine WQ_no (by rfl) ?_; (simp only [Act.put, List.setIfInBounds_toArray, List.set_cons_zero, List.set_cons_succ])) | (refine WQ_yes (by rfl) ?_; apply Exists.intro; refine ⟨fun w1 hb1 => ?_, ?_⟩; (focus (((obtain ⟨-, k0, -⟩ := K0.out.to hb1; have k1 := (hb1.cell (p := ⟨b, off + n * 3 + 2, none⟩) hb).trans cc1.out); have hb1 := Lib.hid hb1; go_simp); (try (go_bits; try go_simp)); (try (rw [if_pos (by omega)]; try go_simp)); (first | done | ((first | (go_at_call 77; refine (within_any _ _ _ _).mono ?_; rintro e w' ⟨rfl, rfl⟩; first | exact ⟨by rw [HD.out], hb1.out⟩ | exact ⟨rfl, hb1.out⟩) | (go_at_call 83; refine (isTick_any _ _).mono ?_; rintro e w' ⟨rfl, rfl⟩; exact ⟨rfl, hb1.out⟩) | (go_at_call 76; refine (unless_any _ _ _).mono ?_; rintro e w' ⟨rfl, rfl⟩; exact ⟨rfl, hb1.out⟩))) | (with_reducible rfl) | exact rfl))); (simp only [Act.put, List.setIfInBounds_toArray, List.set_cons_zero, List.set_cons_succ])))
    refine WQ_nil ?_
    intro w1 hb1
    replace HB := Lib.hid (bThen HB.out hb1)
    clear hb1
    go_wp2_with fail
    refine (first3_new _ _ _ _ _ (by simp)).mono ?_
    rintro e w' ⟨rfl, rfl⟩
    go_wp2_with fail
    go_ret
    exact ⟨ret_int (by rw [HE.out]; first | rfl | simp), bAlloc HB.out _⟩
  · go_wp2_with fail
    refine wp_region_quiet_tail 27 (fun w' => Below (World.heap w2).size (w2) w') (by kernel_rfl) (by kernel_rfl) (Below.refl _ _).drew ?_
    simp only [List.take_succ_cons, List.take_zero, List.drop_succ_cons, List.drop_zero]
    refine WQ.out ?_
    repeat (first | (refine WQ_no (by rfl) ?_; (simp only [Act.put, List.setIfInBounds_toArray, List.set_cons_zero, List.set_cons_succ])) | (refine WQ_yes (by rfl) ?_; apply Exists.intro; refine ⟨fun w1 hb1 => ?_, ?_⟩; (focus (((obtain ⟨-, k0, -⟩ := K0.out.to hb1); have hb1 := Lib.hid hb1; go_simp); (try (go_bits; try go_simp)); (try (rw [if_pos (by omega)]; try go_simp)); (first | done | ((first | (go_at_call 77; refine (within_any _ _ _ _).mono ?_; rintro e w' ⟨rfl, rfl⟩; first | exact ⟨by rw [HD.out], hb1.out⟩ | exact ⟨rfl, hb1.out⟩) | (go_at_call 83; refine (isTick_any _ _).mono ?_; rintro e w' ⟨rfl, rfl⟩; exact ⟨rfl, hb1.out⟩) | (go_at_call 76; refine (unless_any _ _ _).mono ?_; rintro e w' ⟨rfl, rfl⟩; exact ⟨rfl, hb1.out⟩))) | (with_reducible rfl) | exact rfl))); (simp only [Act.put, List.setIfInBounds_toArray, List.set_cons_zero, List.set_cons_succ])))
    refine WQ_nil ?_
    intro w1 hb1
    replace HB := Lib.hid (bThen HB.out hb1)
    clear hb1
    go_wp2_with fail
    refine (first3_new _ _ _ _ _ (by simp)).mono ?_
    rintro e w' ⟨rfl, rfl⟩
    go_wp2_with fail
    go_ret
    exact ⟨ret_int (by rw [HE.out]; first | rfl | simp), bAlloc HB.out _⟩
  · obtain ⟨b, off, rfl, hb, hc⟩ := hRW.out.at (k := n * 3) (by omega)
    have cc1 : Hid (w2.cell? ⟨b, off + n * 3 + 2, none⟩ = some (.int .i64 (mA ms n))) := Lib.hid ((hc (n * 3 + 2) (by omega)).trans (by rw [msgs2]))
    clear hc
    have hn1 : n < n + 1 := by omega
    have hmx : (if 0 < n then (n : Int) else 0) = n := by split <;> omega
    have hz1 : (((n : Int) + 1) == 0) = false := by rw [beq_eq_false_iff_ne]; omega
    go_wp2_with fail
    refine wp_region_quiet_tail 27 (fun w' => Below (World.heap w2).size (w2) w') (by kernel_rfl) (by kernel_rfl) (Below.refl _ _).drew ?_
    simp only [List.take_succ_cons, List.take_zero, List.drop_succ_cons, List.drop_zero]
    refine WQ.out ?_
    repeat (first | (refine WQ_no (by rfl) ?_; (simp only [Act.put, List.setIfInBounds_toArray, List.set_cons_zero, List.set_cons_succ])) | (refine WQ_yes (by rfl) ?_; apply Exists.intro; refine ⟨fun w1 hb1 => ?_, ?_⟩; (focus (((obtain ⟨-, k0, -⟩ := K0.out.to hb1; have k1 := (hb1.cell (p := ⟨b, off + n * 3 + 2, none⟩) hb).trans cc1.out); have hb1 := Lib.hid hb1; go_simp); (try (go_bits; try go_simp)); (try (rw [if_pos (by omega)]; try go_simp)); (first | done | ((first | (go_at_call 77; refine (within_any _ _ _ _).mono ?_; rintro e w' ⟨rfl, rfl⟩; first | exact ⟨by rw [HD.out], hb1.out⟩ | exact ⟨rfl, hb1.out⟩) | (go_at_call 83; refine (isTick_any _ _).mono ?_; rintro e w' ⟨rfl, rfl⟩; exact ⟨rfl, hb1.out⟩) | (go_at_call 76; refine (unless_any _ _ _).mono ?_; rintro e w' ⟨rfl, rfl⟩; exact ⟨rfl, hb1.out⟩))) | (with_reducible rfl) | exact rfl))); (simp only [Act.put, List.setIfInBounds_toArray, List.set_cons_zero, List.set_cons_succ])))
    refine WQ_nil ?_
    intro w1 hb1
    replace HB := Lib.hid (bThen HB.out hb1)
    clear hb1
    go_wp2_with fail
    refine (first3_new _ _ _ _ _ (by simp)).mono ?_
    rintro e w' ⟨rfl, rfl⟩
    go_wp2_with fail
    go_ret
    exact ⟨ret_int (by rw [HE.out]; first | rfl | simp), bAlloc HB.out _⟩

end Go.Proofs.Ytjieojkfpoiabaa

/-
  The iterator over the pairs of messages.
-/
namespace Go.Proofs.Ytjieojkfpoiabaa
open Go.RowKit
attribute [local go_sem] Oper.semAt_some

theorem range_split {j n : Nat} (h : j < n) : List.range n = List.range j ++ j :: (List.range n).drop (j + 1) := by
  have h1 := (List.take_append_drop j (List.range n)).symm
  rw [List.drop_eq_getElem_cons (by simpa using h)] at h1
  rw [List.take_range, Nat.min_eq_left (by omega)] at h1
  simpa using h1

/-- How many messages the j-th pair has; the pair as a slice. -/
def pairN (m j : Nat) : Nat := if 2 * j + 1 < m then 2 else 1
abbrev pairV (b off m j : Nat) : Value := .slice (some ⟨b, off + 2 * j * 3, none⟩) (pairN m j) (pairN m j)

theorem Chunk_any (a : Option Addr) (len cap : Nat) (w : World) :
    Calls Try.prog 123 #[.slice a len cap, .int .i64 2] w fun e w' => e = .returned (.func (.func 142) #[] #[.pointer (some ⟨w.heap.size, 0, none⟩), .pointer (some ⟨w.heap.size + 1, 0, none⟩)]) ∧
      (w.alloc (.cells #[.slice a len cap] 43)).alloc (.cells #[.int .i64 2] 3) = w' := by
  go_enter Try.func123, Try.ntmps123
  go_wp2_with fail
  go_ret
  exact ⟨rfl, rfl⟩

set_option maxHeartbeats 1600000 in
set_option maxRecDepth 100000 in
theorem chunk1_in (n m b off : Nat) (a : Option Addr) (cap bs bn : Nat) (w : World) (hlen : m ≤ 100000) (hcap : m ≤ cap) (ha : 0 < m → a = some ⟨b, off, none⟩)
    (hS : Blk w bs #[.slice a m cap]) (hN : Blk w bn #[.int .i64 2]) :
    SeqM n Try.prog 142 #[.pointer (some ⟨bs, 0, none⟩), .pointer (some ⟨bn, 0, none⟩)] (fun j => #[pairV b off m j]) (List.range ((m + 1) / 2)) (fun k => k = bs ∨ k = bn) w := by
  intro l J Jx M W hW hM hJ hY h0
  replace hS := Lib.hid (hS.to hW)
  replace hN := Lib.hid (hN.to hW)
  replace hM := Lib.hid hM
  replace hJ := Lib.hid hJ
  replace hY := Lib.hid hY
  replace h0 := Lib.hid h0
  obtain ⟨hbs0, k1, -⟩ := hS.out
  have hbn0 := hN.out.1
  refine callsIn_of_wp Try.func142 rfl trivial ?_ rfl
  simp only [Try.ntmps142, List.size_toArray, List.length_cons, List.length_nil, Nat.reduceAdd, Nat.reduceSub, Array.replicate_succ, Array.replicate_zero, List.push_toArray, List.append_toArray, List.nil_append, List.cons_append]
  gi_wp2_with fail
  clear k1
  gi_loopw [4] (fun i wr => ∃ i' j : Nat, i' ≤ m + 1 ∧ 2 * j = i' ∧ i = .int .i64 (i' : Int) ∧ ∃ M1 : Nat → Prop, Hid (Blk wr bs #[.slice a m cap]) ∧ Hid (Blk wr bn #[.int .i64 2]) ∧ Hid (J (List.range j) M1 wr) ∧ Hid (∀ k, M1 k → k < wr.heap.size ∧ ¬ (k = bs ∨ k = bn)) ∧ W.heap.size ≤ wr.heap.size) (fun i _ => m + 2 - (intOf i).toNat)
  case atStart =>
    exact ⟨0, 0, by omega, rfl, rfl, M, hS, hN, h0, hM, Nat.le_refl _⟩
  case round =>
    obtain ⟨i, j, hj, hij, rfl, M1, hS, hN, hj1, hm, hsz⟩ := hrel
    obtain ⟨-, kS, -⟩ := hS.out
    obtain ⟨-, kN, -⟩ := hN.out
    by_cases hlt : i < m
    · obtain rfl := ha (by omega)
      have hpn : pairN m j = 2 ∧ i + 1 < m ∨ pairN m j = 1 ∧ m = i + 1 := by unfold pairN; split <;> omega
      have HY := Lib.hid (range_split (show j < (m + 1) / 2 by omega))
      gi_wp2_with fail
      refine wpIn_wide.2 ?_
      refine wp_region_quiet_all (fun w' => Below (World.heap wr).size (wr) w') (by kernel_rfl) (by kernel_rfl) (Below.refl _ _).drew ?_
      have hci : (cap = i) = False := by rw [eq_iff_iff]; exact ⟨fun h => by omega, False.elim⟩
      have hci' : ¬ cap = i := by omega
      rcases hpn with ⟨hp1, hp2⟩ | ⟨hp1, hp2⟩
      · have HP := Lib.hid hp1
        clear hp1
        have hmin : (if ((m - i : Nat) : Int) < 2 then ((m - i : Nat) : Int) else 2) = 2 := by split <;> omega
        have hq1 : (i : Int) + 2 ≤ cap := by omega
        refine WQ.out ?_
        repeat (first | (refine WQ_no (by rfl) ?_; (simp only [Act.put, List.setIfInBounds_toArray, List.set_cons_zero, List.set_cons_succ])) | (refine WQ_yes (by rfl) ?_; apply Exists.intro; refine ⟨fun w1 hb1 => ?_, ?_⟩; (focus (((obtain ⟨-, k0, -⟩ := hS.out.to hb1; obtain ⟨-, k1, -⟩ := hN.out.to hb1); have hb1 := Lib.hid hb1; go_simp); (try (go_bits; try go_simp)); (try (rw [if_pos (by omega)]; try go_simp)); (first | done | (fail) | (with_reducible rfl) | exact rfl))); (simp only [Act.put, List.setIfInBounds_toArray, List.set_cons_zero, List.set_cons_succ])))
        refine WQ_nil ?_
        intro w1 hb1
        replace hS := Lib.hid (hS.out.to hb1)
        replace hN := Lib.hid (hN.out.to hb1)
        have hsz1 : wr.heap.size ≤ w1.heap.size := hb1.size
        have hj2 := hJ.out _ _ _ _ hj1.out (Agree.of_below (M := M1) hb1 hsz)
        replace hm : Hid (∀ k, M1 k → k < w1.heap.size ∧ ¬ (k = bs ∨ k = bn)) := Lib.hid (fun k hk => ⟨by have := (hm.out k hk).1; omega, (hm.out k hk).2⟩)
        clear hj1 hb1 kS kN
        obtain ⟨fn, tmps, assign, body, hy, hRd⟩ := hY.out (List.range j) j _ M1 w1 HY.out hj2
        have hy' : Sem.run Try.prog (Instr.yield l #[.slice (some ⟨b, off + i * 3, none⟩) 2 2]) w1 = .ok (.round l fn tmps assign body) w1 := by
          have e1 : pairV b off m j = .slice (some ⟨b, off + i * 3, none⟩) 2 2 := by unfold pairV; rw [HP.out, hij]
          rw [← e1]
          exact hy
        clear hy
        obtain ⟨-, kS, -⟩ := hS.out
        have hRd := Lib.hid hRd
        gi_wp2_with fail
        refine ⟨fun h => by simp [Fence.wide] at h, ?_⟩
        refine hRd.out.mono ?_
        rintro e W2 (⟨rfl, M2, hJ2, hU⟩ | ⟨rfl, hJx⟩)
        · replace hS := Lib.hid (hS.out.upd hU (fun h => (hm.out _ h).2 (.inl rfl)))
          replace hN := Lib.hid (hN.out.upd hU (fun h => (hm.out _ h).2 (.inr rfl)))
          have hsz2 := hU.size
          have hJ2 := Lib.hid hJ2
          have hU := Lib.hid hU
          clear kS hy'
          obtain ⟨hbsW, -, -⟩ := hS.out
          obtain ⟨hbnW, kN, -⟩ := hN.out
          gi_wp2_with fail
          go_roundw
          case rel =>
            refine ⟨i + 2, j + 1, by omega, by omega, by go_num, M2, hS, hN, Lib.hid ?_, Lib.hid ?_, ?_⟩
            · rw [List.range_succ]; exact hJ2.out
            · intro k' hk'
              refine ⟨hU.out.fit k' hk', ?_⟩
              rcases hU.out.grow k' hk' with h | h
              · exact (hm.out k' h).2
              · have e1 := hbs0
                have e2 := hbn0
                rintro (rfl | rfl) <;> omega
            · omega
          case measure => simp [intOf]; omega
        · gi_wp2_with fail
          refine bodyPost_ret (results_none rfl _ _ _) rfl ?_
          exact ⟨⟨_, rfl⟩, .inr ⟨_, _, _, HY.out, hJx⟩⟩
      · have HP := Lib.hid hp1
        have HM := Lib.hid hp2
        clear hp1
        have hmin : (if ((m - i : Nat) : Int) < 2 then ((m - i : Nat) : Int) else 2) = 1 := by split <;> omega
        have hq1 : (i : Int) + 1 ≤ cap := by omega
        clear hp2
        refine WQ.out ?_
        repeat (first | (refine WQ_no (by rfl) ?_; (simp only [Act.put, List.setIfInBounds_toArray, List.set_cons_zero, List.set_cons_succ])) | (refine WQ_yes (by rfl) ?_; apply Exists.intro; refine ⟨fun w1 hb1 => ?_, ?_⟩; (focus (((obtain ⟨-, k0, -⟩ := hS.out.to hb1; obtain ⟨-, k1, -⟩ := hN.out.to hb1); have hb1 := Lib.hid hb1; go_simp); (try (go_bits; try go_simp)); (try (rw [if_pos (by omega)]; try go_simp)); (first | done | (fail) | (with_reducible rfl) | exact rfl))); (simp only [Act.put, List.setIfInBounds_toArray, List.set_cons_zero, List.set_cons_succ])))
        refine WQ_nil ?_
        intro w1 hb1
        replace hS := Lib.hid (hS.out.to hb1)
        replace hN := Lib.hid (hN.out.to hb1)
        have hsz1 : wr.heap.size ≤ w1.heap.size := hb1.size
        have hj2 := hJ.out _ _ _ _ hj1.out (Agree.of_below (M := M1) hb1 hsz)
        replace hm : Hid (∀ k, M1 k → k < w1.heap.size ∧ ¬ (k = bs ∨ k = bn)) := Lib.hid (fun k hk => ⟨by have := (hm.out k hk).1; omega, (hm.out k hk).2⟩)
        clear hj1 hb1 kS kN
        obtain ⟨fn, tmps, assign, body, hy, hRd⟩ := hY.out (List.range j) j _ M1 w1 HY.out hj2
        have hy' : Sem.run Try.prog (Instr.yield l #[.slice (some ⟨b, off + i * 3, none⟩) 1 1]) w1 = .ok (.round l fn tmps assign body) w1 := by
          have e1 : pairV b off m j = .slice (some ⟨b, off + i * 3, none⟩) 1 1 := by unfold pairV; rw [HP.out, hij]
          rw [← e1]
          exact hy
        clear hy
        obtain ⟨-, kS, -⟩ := hS.out
        have hRd := Lib.hid hRd
        gi_wp2_with fail
        refine ⟨fun h => by simp [Fence.wide] at h, ?_⟩
        refine hRd.out.mono ?_
        rintro e W2 (⟨rfl, M2, hJ2, hU⟩ | ⟨rfl, hJx⟩)
        · replace hS := Lib.hid (hS.out.upd hU (fun h => (hm.out _ h).2 (.inl rfl)))
          replace hN := Lib.hid (hN.out.upd hU (fun h => (hm.out _ h).2 (.inr rfl)))
          have hsz2 := hU.size
          have hJ2 := Lib.hid hJ2
          have hU := Lib.hid hU
          clear kS hy'
          obtain ⟨hbsW, -, -⟩ := hS.out
          obtain ⟨hbnW, kN, -⟩ := hN.out
          gi_wp2_with fail
          go_roundw
          case rel =>
            refine ⟨i + 2, j + 1, by omega, by omega, by go_num, M2, hS, hN, Lib.hid ?_, Lib.hid ?_, ?_⟩
            · rw [List.range_succ]; exact hJ2.out
            · intro k' hk'
              refine ⟨hU.out.fit k' hk', ?_⟩
              rcases hU.out.grow k' hk' with h | h
              · exact (hm.out k' h).2
              · have e1 := hbs0
                have e2 := hbn0
                rintro (rfl | rfl) <;> omega
            · omega
          case measure => simp [intOf]; omega
        · gi_wp2_with fail
          refine bodyPost_ret (results_none rfl _ _ _) rfl ?_
          exact ⟨⟨_, rfl⟩, .inr ⟨_, _, _, HY.out, hJx⟩⟩
    · have : (m + 1) / 2 = j := by omega
      gi_wp2_with fail
      go_end0
      refine ⟨⟨_, rfl⟩, .inl ⟨M1, ?_⟩⟩
      rw [this]
      exact hj1.out

end Go.Proofs.Ytjieojkfpoiabaa

