/-
  Texts of this claim, in their build order: E2.
-/
import Derived.Test.YtfdlhhinomjakaaHel18
import Derived.Test.YtfdlhhinomjakaaHel0

namespace Go.Proofs.Ytfdlhhinomjakaa
section
set_option maxRecDepth 100000
set_option maxHeartbeats 1600000
open Go.RowKit

/-- The error of a node. -/
def nodE (ks fs : List Int) (k : Nat) : Int := unl ((decide (1 ≤ gi ks k) && decide (gi ks k ≤ 20)) && (decide (-1000 ≤ gi fs k) && decide (gi fs k ≤ 1000))) 2
def chE0 (ks fs : List Int) : Int := firstE [unl (decide ((0 : Int) < ks.length) && ((fs.length : Int) == ks.length)) 10, unl (decide ((ks.length : Int) ≤ 6)) 8]
def chkC (ks fs : List Int) : Int × Int := if chE0 ks fs = 0 then eachR (nodE ks fs) 0 ks.length else (0, chE0 ks fs)
/-- A chain as a value. -/
abbrev chV (a1 : Option Addr) (n1 c1 : Nat) (a2 : Option Addr) (n2 c2 : Nat) : Array Value := #[.slice a1 n1 c1, .slice a2 n2 c2]

theorem chain1_any (ks fs : List Int) (k q : Nat) (a1 a2 : Option Addr) (c1 c2 : Nat) (w : World) (hk : k < fs.length) (hq : Blk w q (chV a1 ks.length c1 a2 fs.length c2)) (hr : Reads w a2 fs.length (ints fs)) :
    Calls Try.prog 79 #[.int .i64 k, .int .i64 (gi ks k), .pointer (some ⟨q, 0, none⟩)] w fun e w' => e = .returned (.int .i64 (nodE ks fs k)) ∧ w = w' := by
  obtain ⟨b, off, rfl, hb, hc⟩ := hr.at hk
  have h1 : w.cell? ⟨b, off + k, none⟩ = some (.int .i64 (gi fs k)) := hc k hk
  obtain ⟨-, k0, -⟩ := hq
  clear hc hr
  unfold nodE
  cases hd : (decide (1 ≤ gi ks k) && decide (gi ks k ≤ 20))
  all_goals
    have HD := zH hd
    clear hd
    go_enter Try.func79, Try.ntmps79
    go_wp2_with (first | (go_at_call 44; refine (within_any _ _ _ _).mono ?_; rintro e w' ⟨rfl, rfl⟩; rw [HD.out]) | (go_at_call 53; refine (sized_any _ _ _ (by omega) (by omega)).mono ?_; rintro e w' ⟨rfl, rfl⟩) | (go_at_call 33; refine (unless_any _ _ _).mono ?_; rintro e w' ⟨rfl, rfl⟩))
    go_ret
    exact ⟨rfl, rfl⟩

theorem CheckChain_any (ks fs : List Int) (a1 a2 : Option Addr) (c1 c2 : Nat) (w : World) (h1 : ks.length ≤ 1000) (hr1 : Reads w a1 ks.length (ints ks)) (hr2 : Reads w a2 fs.length (ints fs)) :
    Calls Try.prog 69 #[.agg (chV a1 ks.length c1 a2 fs.length c2)] w fun e w' => e = .returned (.tuple #[.int .i64 (chkC ks fs).1, .int .i64 (chkC ks fs).2]) ∧ Below w.heap.size w w' := by
  have HR1 := zH hr1
  have HR2 := zH hr2
  have HFL : Hid (chE0 ks fs = 0 → fs.length = ks.length) := zH (fun h => by
    have h0 := firstE_zero (show firstE [_, _] = 0 from h)
    have h1 := unl_zero (by decide) (h0 _ (List.mem_cons_self ..))
    simp only [Bool.and_eq_true, beq_iff_eq] at h1
    omega)
  clear hr1 hr2
  have HEA := zH (fun (q : Nat) (W : World) (hI : Blk W q (chV a1 ks.length c1 a2 fs.length c2)) (hr : Reads W a1 ks.length (ints ks)) (hr2 : Reads W a2 fs.length (ints fs)) (hfl : fs.length = ks.length) =>
    each_int ks a1 c1 79 ⟨q, 0, none⟩ W (nodE ks fs) (fun _ W' => W = W') (by unfold maxLen; omega) (by intro args w; go_simp) rfl (fun k W' hk e => by subst e; exact hr) (fun k W' hk e => by
      subst e
      exact (chain1_any ks fs k q a1 a2 c1 c2 W (by omega) hI hr2).mono (fun e w' h => h)))
  obtain ⟨ce, hce⟩ : ∃ ce, chE0 ks fs = ce := ⟨_, rfl⟩
  obtain ⟨cc, hcc⟩ : ∃ cc, chkC ks fs = cc := ⟨_, rfl⟩
  have HC : Hid ((if ce = 0 then eachR (nodE ks fs) 0 ks.length else (0, ce)) = cc) := zH (by rw [← hcc, ← hce]; rfl)
  have HE0 : Hid (firstE [unl (decide ((0 : Int) < ks.length) && ((fs.length : Int) == ks.length)) 10, unl (decide ((ks.length : Int) ≤ 6)) 8] = ce) := zH (by rw [← hce]; rfl)
  rw [hce] at HFL
  rw [hcc]
  clear hce hcc
  obtain ⟨er, her⟩ : ∃ er, eachR (nodE ks fs) 0 ks.length = er := ⟨_, rfl⟩
  rw [her] at HC HEA
  clear her
  obtain ⟨m, hm⟩ : ∃ m, fs.length = m := ⟨_, rfl⟩
  rw [hm] at HR2 HFL HEA HE0 ⊢
  obtain ⟨l, hl⟩ : ∃ l, ks.length = l := ⟨_, rfl⟩
  rw [hl] at HR1 HFL HEA HE0 h1 ⊢
  clear hl hm
  rcases l with _ | n
  · have hE : ce = 10 := HE0.out.symm
    have hce : ¬ ce = 0 := by omega
    have HE := zH hE
    clear hE
    go_enter Try.func69, Try.ntmps69
    go_wp2_with fail
    obtain ⟨W, hW⟩ : ∃ W, w.alloc (.cells (chV a1 0 c1 a2 m c2) 61) = W := ⟨_, rfl⟩
    rw [hW]
    have K0 : Hid (Blk W w.heap.size (chV a1 0 c1 a2 m c2)) := by subst hW; exact Blk.new _ _ _
    have HB : Hid (Below w.heap.size w W) := by subst hW; exact bAlloc (bSelf w) _
    have HW1 : Hid (Reads W a1 0 (ints ks)) := by subst hW; exact HR1.out.alloc _
    have HW2 : Hid (Reads W a2 m (ints fs)) := by subst hW; exact HR2.out.alloc _
    clear hW
    refine wp_region_quiet_tail 19 (fun w' => Below (World.heap W).size (W) w') (by kernel_rfl) (by kernel_rfl) (Below.refl _ _).drew ?_
    simp only [List.take_succ_cons, List.take_zero, List.drop_succ_cons, List.drop_zero]
    refine WQ.out ?_
    repeat (first | (refine WQ_no (by rfl) ?_; (simp only [Act.put, zzT, zzO, zzS])) | (refine WQ_yes (by rfl) ?_; apply Exists.intro; refine ⟨fun w1 hb1 => ?_, ?_⟩; (focus (((obtain ⟨-, k0, -⟩ := K0.out.to hb1); have hb1 := zH hb1; go_simp); (try (go_bits; try go_simp)); (try (rw [if_pos (by omega)]; try go_simp)); (first | done | ((go_at_call 33; refine (unless_any _ _ _).mono ?_; rintro e w' ⟨rfl, rfl⟩; exact ⟨rfl, hb1.out⟩)) | (with_reducible rfl) | exact rfl))); (simp only [Act.put, zzT, zzO, zzS])))
    refine WQ_nil ?_
    intro w1 hb1
    replace K0 := zH (K0.out.to hb1)
    replace HB := zH (bThen HB.out hb1)
    replace HW1 := zH (HW1.out.to hb1)
    replace HW2 := zH (HW2.out.to hb1)
    clear hb1
    go_wp2_with fail
    refine (first2_new _ _ _ _ (by simp)).mono ?_
    rintro e w' ⟨rfl, rfl⟩
    have e1 : firstE [unl false 10, unl true 8] = ce := HE.out.symm
    rw [e1]
    have hce' : (ce != 0) = true := by simpa using hce
    go_wp2_with fail
    go_ret2
    rw [← HC.out, if_neg hce]
    exact ⟨rfl, bAlloc HB.out _⟩
  · have hpos : 0 < n + 1 := by omega
    have HE1 : Hid (firstE [unl ((m : Int) == (n : Int) + 1) 10, unl (decide ((n : Int) + 1 ≤ 6)) 8] = ce) := zH (by
      have := HE0.out
      rwa [decide_eq_true (by omega), Bool.true_and] at this)
    go_enter Try.func69, Try.ntmps69
    go_wp2_with fail
    obtain ⟨W, hW⟩ : ∃ W, w.alloc (.cells (chV a1 (n + 1) c1 a2 m c2) 61) = W := ⟨_, rfl⟩
    rw [hW]
    have K0 : Hid (Blk W w.heap.size (chV a1 (n + 1) c1 a2 m c2)) := by subst hW; exact Blk.new _ _ _
    have HB : Hid (Below w.heap.size w W) := by subst hW; exact bAlloc (bSelf w) _
    have HW1 : Hid (Reads W a1 (n + 1) (ints ks)) := by subst hW; exact HR1.out.alloc _
    have HW2 : Hid (Reads W a2 m (ints fs)) := by subst hW; exact HR2.out.alloc _
    clear hW
    refine wp_region_quiet_tail 19 (fun w' => Below (World.heap W).size (W) w') (by kernel_rfl) (by kernel_rfl) (Below.refl _ _).drew ?_
    simp only [List.take_succ_cons, List.take_zero, List.drop_succ_cons, List.drop_zero]
    refine WQ.out ?_
    repeat (first | (refine WQ_no (by rfl) ?_; (simp only [Act.put, zzT, zzO, zzS])) | (refine WQ_yes (by rfl) ?_; apply Exists.intro; refine ⟨fun w1 hb1 => ?_, ?_⟩; (focus (((obtain ⟨-, k0, -⟩ := K0.out.to hb1); have hb1 := zH hb1; go_simp); (try (go_bits; try go_simp)); (try (rw [if_pos (by omega)]; try go_simp)); (first | done | ((go_at_call 33; refine (unless_any _ _ _).mono ?_; rintro e w' ⟨rfl, rfl⟩; exact ⟨rfl, hb1.out⟩)) | (with_reducible rfl) | exact rfl))); (simp only [Act.put, zzT, zzO, zzS])))
    refine WQ_nil ?_
    intro w1 hb1
    replace K0 := zH (K0.out.to hb1)
    replace HB := zH (bThen HB.out hb1)
    replace HW1 := zH (HW1.out.to hb1)
    replace HW2 := zH (HW2.out.to hb1)
    clear hb1
    go_wp2_with fail
    refine (first2_new _ _ _ _ (by simp)).mono ?_
    rintro e w' ⟨rfl, rfl⟩
    rw [HE1.out]
    by_cases hce : ce = 0
    · have hce' : (ce != 0) = false := by simpa using hce
      have HZ := zH (HFL.out hce)
      have HC0 := HC.out
      rw [if_pos hce] at HC0
      have HCC := zH HC0
      clear HC0 hce
      have K1 := zH (K0.out.alloc (.cells #[.int .i64 (unl ((m : Int) == (n : Int) + 1) 10), .int .i64 (unl (decide ((n : Int) + 1 ≤ 6)) 8)] 31))
      obtain ⟨-, k0, -⟩ := K1.out
      go_wp2_with fail
      refine (HEA.out _ _ K1.out (HW1.out.alloc _) (HW2.out.alloc _) HZ.out).mono ?_
      rintro e w' ⟨rfl, k, hk, rfl⟩
      go_wp2_with fail
      go_ret2
      rw [HCC.out]
      exact ⟨rfl, bAlloc HB.out _⟩
    · have hce' : (ce != 0) = true := by simpa using hce
      go_wp2_with fail
      go_ret2
      rw [← HC.out, if_neg hce]
      exact ⟨rfl, bAlloc HB.out _⟩

theorem chainErr_any (ks fs : List Int) (a1 a2 : Option Addr) (c1 c2 : Nat) (w : World) (h1 : ks.length ≤ 1000) (hr1 : Reads w a1 ks.length (ints ks)) (hr2 : Reads w a2 fs.length (ints fs)) :
    Calls Try.prog 50 #[.agg (chV a1 ks.length c1 a2 fs.length c2)] w fun e w' => e = .returned (.int .i64 (chkC ks fs).2) ∧ Below w.heap.size w w' := by
  have HR1 := zH hr1
  have HR2 := zH hr2
  clear hr1 hr2
  go_enter Try.func50, Try.ntmps50
  go_wp2_with fail
  refine (CheckChain_any ks fs a1 a2 c1 c2 _ h1 (HR1.out.alloc _) (HR2.out.alloc _)).mono ?_
  rintro e w' ⟨rfl, hb⟩
  have HB := zH (bThen (bAlloc (bSelf w) _) hb)
  clear hb
  go_wp2_with fail
  go_ret
  exact ⟨rfl, HB.out⟩
end
end Go.Proofs.Ytfdlhhinomjakaa
