/-
  Texts of this claim, in their build order: OA10.
-/
import Derived.Test.YtjfedpblkejmkaaGreatBot23
import Derived.Test.YtjfedpblkejmkaaGreatBot6
import Derived.Test.YtjfedpblkejmkaaGreatBot0

namespace Go.Proofs.YtjfedpblkejmkaaGreat
section
set_option maxRecDepth 100000
set_option maxHeartbeats 3200000
open Go.RowKit
attribute [local go_sem] Oper.semAt_some

/-- The error of a range of demands. -/
def rgE (r : Int × Int) : Int := firstE [unl (wthn r.1 0 50 && wthn r.2 0 50) 2, unl (decide (r.1 ≤ r.2)) 9]
def chCl (c : List (Int × Int)) : Int × Int := if 20 < c.length then (0, 8) else eachR (fun k => rgE (fg c k)) 0 c.length
theorem rgE_ok {r : Int × Int} (h : rgE r = 0) : 0 ≤ r.1 ∧ r.2 ≤ 50 ∧ r.1 ≤ r.2 := by
  obtain ⟨h1, h2⟩ := firstE2.1 (show firstE [_, _] = 0 from h)
  rw [unlZ (by decide)] at h1 h2
  simp only [Bool.and_eq_true, wthn_iff, decide_eq_true_eq] at h1 h2
  omega
theorem chCl_ok {c : List (Int × Int)} (h : (chCl c).2 = 0) : c.length ≤ 20 ∧ ∀ k, k < c.length → 0 ≤ (fg c k).1 ∧ (fg c k).2 ≤ 50 ∧ (fg c k).1 ≤ (fg c k).2 := by
  unfold chCl at h
  by_cases hl : 20 < c.length
  · rw [if_pos hl] at h; exact absurd h (by decide)
  · rw [if_neg hl] at h
    exact ⟨by omega, fun k hk => rgE_ok (eachR_ok _ _ h k (by omega) (by omega))⟩

theorem rangeErr_any (lo hi : Int) (w : World) :
    Calls Tryz.prog 144 #[.agg #[.int .i64 lo, .int .i64 hi]] w fun e w' => e = .returned (.int .i64 (rgE (lo, hi))) ∧ Below w.heap.size w w' := by
  have H2 : Hid (firstE [unl (wthn lo 0 50 && wthn hi 0 50) 2, unl (decide (lo ≤ hi)) 9] = rgE (lo, hi)) := zH rfl
  obtain ⟨re, hre⟩ : ∃ e, rgE (lo, hi) = e := ⟨_, rfl⟩
  rw [hre] at H2 ⊢
  clear hre
  cases hv : wthn lo 0 50
  all_goals
    rw [hv] at H2
    have HV := zH hv
    clear hv
    go_enter Tryz.func144, Tryz.ntmps144
    go_wp2_with fail
    obtain ⟨W, hW⟩ : ∃ W, w.alloc (.cells #[.int .i64 lo, .int .i64 hi] 25) = W := ⟨_, rfl⟩
    rw [hW]
    have K0 : Hid (Blk W w.heap.size #[.int .i64 lo, .int .i64 hi]) := by subst hW; exact zH (Blk.new _ _ _)
    have HB : Hid (Below w.heap.size w W) := by subst hW; exact zH (bAlloc (bSelf w) _)
    clear hW
    refine wp_region_quiet_tail 15 (fun w' => Below (World.heap W).size (W) w') (by kernel_rfl) (by kernel_rfl) (Below.refl _ _).drew ?_
    simp only [List.take_succ_cons, List.take_zero, List.drop_succ_cons, List.drop_zero]
    refine WQ.out ?_
    repeat (first | (refine WQ_no (by rfl) ?_; (simp only [Act.put, zzT, zzO, zzS])) | (refine WQ_yes (by rfl) ?_; apply Exists.intro; refine ⟨fun w1 hb1 => ?_, ?_⟩; (focus (((obtain ⟨-, k0, -⟩ := K0.out.to hb1); have hb1 := zH hb1; go_simp); (try (go_bits; try go_simp)); (try (rw [if_pos (by omega)]; try go_simp)); (first | done | ((first | (go_at_call 108; refine (isFlow_any _ _).mono ?_; rintro e w' ⟨rfl, rfl⟩; first | exact ⟨by rw [HV.out], hb1.out⟩ | exact ⟨rfl, hb1.out⟩) | (go_at_call 94; refine (oUnless_any _ _ _).mono ?_; rintro e w' ⟨rfl, rfl⟩; exact ⟨rfl, hb1.out⟩))) | (with_reducible rfl) | exact rfl))); (simp only [Act.put, zzT, zzO, zzS])))
    refine WQ_nil ?_
    intro w1 hb1
    replace HB := zH (bThen HB.out hb1)
    clear hb1
    go_wp2_with fail
    refine (oFirst2_new _ _ _ _ (by simp)).mono ?_
    rintro e w' ⟨rfl, rfl⟩
    go_wp2_with fail
    go_ret
    exact ⟨ret_int (by rw [← H2.out]; first | rfl | simp), bAlloc HB.out _⟩

theorem class1_any (k lo hi : Int) (w : World) :
    Calls Tryz.prog 143 #[.int .i64 k, .agg #[.int .i64 lo, .int .i64 hi]] w fun e w' => e = .returned (.int .i64 (rgE (lo, hi))) ∧ Below w.heap.size w w' := by
  go_enter Tryz.func143, Tryz.ntmps143
  go_wp2_with fail
  refine (rangeErr_any _ _ _).mono ?_
  rintro e w1 ⟨rfl, hb⟩
  have HB := zH (bThen (bAlloc (bSelf w) _) hb)
  clear hb
  go_wp2_with fail
  go_ret
  exact ⟨rfl, HB.out⟩

theorem CheckClass_any (c : List (Int × Int)) (a : Option Addr) (cap : Nat) (w : World) (hlen : c.length ≤ maxLen) (hr : Reads w a (c.length * 2) (fracs c)) :
    Calls Tryz.prog 69 #[.slice a c.length cap] w fun e w' => e = .returned (.tuple #[.int .i64 (chCl c).1, .int .i64 (chCl c).2]) ∧ Below w.heap.size w w' := by
  unfold maxLen at hlen
  by_cases hl : 20 < c.length
  · have e1 : chCl c = (0, 8) := by unfold chCl; rw [if_pos hl]
    rw [e1]
    clear hr
    go_enter Tryz.func69, Tryz.ntmps69
    go_wp2_with fail
    go_ret2
    exact ⟨rfl, bSelf w⟩
  · have e1 : chCl c = eachR (fun k => rgE (fg c k)) 0 c.length := by unfold chCl; rw [if_neg hl]
    rw [e1]
    have hl2 : c.length ≤ 20 := by omega
    have HE := zH (eachRg_any c a cap 143 #[] w (fun k => rgE (fg c k)) (fun _ W => Below w.heap.size w W) (by omega) (by intro args w; go_simp) (bSelf w) (fun _ W _ h => hr.to h) (fun _ W o h => bAlloc h o)
      (fun k W hk h => (class1_any k _ _ W).mono fun e w'' ⟨he, hb⟩ => ⟨he, bThen h hb⟩))
    obtain ⟨er, her⟩ : ∃ e, eachR (fun k => rgE (fg c k)) 0 c.length = e := ⟨_, rfl⟩
    rw [her] at HE ⊢
    clear e1 her hr
    go_enter Tryz.func69, Tryz.ntmps69
    go_wp2_with fail
    refine HE.out.mono ?_
    rintro e w1 ⟨rfl, kk, -, hb, -⟩
    have HB := zH hb
    clear hb
    go_wp2_with fail
    go_ret2
    exact ⟨rfl, HB.out⟩

theorem classErr_any (c : List (Int × Int)) (a : Option Addr) (cap : Nat) (w : World) (hlen : c.length ≤ maxLen) (hr : Reads w a (c.length * 2) (fracs c)) :
    Calls Tryz.prog 145 #[.slice a c.length cap] w fun e w' => e = .returned (.int .i64 (chCl c).2) ∧ Below w.heap.size w w' := by
  have HC := zH (CheckClass_any c a cap w hlen hr)
  obtain ⟨e1, he1⟩ : ∃ e, (chCl c).1 = e := ⟨_, rfl⟩
  obtain ⟨e2, he2⟩ : ∃ e, (chCl c).2 = e := ⟨_, rfl⟩
  rw [he1, he2] at HC
  rw [he2]
  clear he1 he2 hr hlen
  go_enter Tryz.func145, Tryz.ntmps145
  go_wp2_with fail
  refine HC.out.mono ?_
  rintro e w1 ⟨rfl, hb⟩
  have HB := zH hb
  clear hb
  go_wp2_with fail
  go_ret
  exact ⟨rfl, HB.out⟩

/-- The error of a plant, a state and a class; and of a limit besides. -/
def opCE (p : Plt) (v : Int) (c : List (Int × Int)) : Int := firstE [opSE p v, (chCl c).2]
def opLE (p : Plt) (v : Int) (c : List (Int × Int)) (lim : Int) : Int := firstE [opCE p v c, unl (wthn lim 0 1000) 2]
/-- The error of a plant, a range and a limit. -/
def opRE (p : Plt) (r : Int × Int) (lim : Int) : Int := firstE [(chP p).2, rgE r, unl (wthn lim 0 1000) 2]

theorem openClass_any (p : Plt) (s : OSt) (c : List (Int × Int)) (a ac : Option Addr) (cap cc : Nat) (w : World) (hlen : p.pts.length ≤ 1000) (hlc : c.length ≤ maxLen) (hrc : Reads w ac (c.length * 2) (fracs c)) (hr : Reads w a (p.pts.length * 2) (fracs p.pts)) :
    Calls Tryz.prog 140 #[.agg (plC p a cap), .agg #[.int .i64 s.1, .bool s.2], .slice ac c.length cc] w (OpsPost p a cap (opCE p s.1 c) w) := by
  have HO := zH (fun W (hb : Below w.heap.size w W) => openState_any p s a cap W hlen (hr.to hb))
  have HCE := zH (fun W (hb : Below w.heap.size w W) => classErr_any c ac cc W hlc (hrc.to hb))
  have HE : Hid (firstE [opSE p s.1, (chCl c).2] = opCE p s.1 c) := zH rfl
  clear hr hrc
  obtain ⟨n, hn⟩ : ∃ n, c.length = n := ⟨_, rfl⟩
  rw [hn] at HCE hlc ⊢
  clear hn
  unfold maxLen at hlc
  obtain ⟨s1, sr⟩ := s
  dsimp only at HO HE ⊢
  have HP : Hid (∀ w e w', OpsPost p a cap (opCE p s1 c) w e w' ↔ ∃ al cl, e = .returned (.tuple #[.agg (plL p a cap al cl), .int .i64 (opCE p s1 c)]) ∧ p.pts.length ≤ cl ∧ Reads w' al (p.pts.length * 2) (fracs p.pts) ∧ Below w.heap.size w w' ∧ ∀ q, al = some q → w.heap.size ≤ q.block) := zH (fun w e w' => Iff.rfl)
  obtain ⟨er, her⟩ : ∃ e, opCE p s1 c = e := ⟨_, rfl⟩
  rw [her] at HE HP ⊢
  clear her
  go_enter Tryz.func140, Tryz.ntmps140
  go_wp2_with fail
  refine (HO.out _ (bAlloc (bAlloc (bAlloc (bSelf w) _) _) _)).mono ?_
  intro e wo hpost
  obtain ⟨al, cl, rfl, hcl, hrd, hb, hfr⟩ := hpost.ex
  have K2 : Hid (Blk wo (w.heap.size + 1 + 1) #[.slice none 0 0, .int .i64 0, .int .i64 0, .int .i64 0, .slice none 0 0]) := zH ((Blk.newAt _ _ _ (by simp)).to hb)
  have HB := zH (bThen (bAlloc (bAlloc (bAlloc (bSelf w) _) _) _) hb)
  have HRD := zH hrd
  have hfr : ∀ q, al = some q → w.heap.size + 1 + 1 + 1 ≤ q.block := fun q hq => by have := hfr q hq; simp at this; omega
  have HFR := zH hfr
  clear hb hrd hpost hfr HO
  go_wp2_with fail
  obtain ⟨W, hW⟩ : ∃ W, wo.alloc (.cells #[.slice a p.pts.length cap, .int .i64 p.pump, .int .i64 p.on, .int .i64 p.off, .slice al p.pts.length cl] 170) = W := ⟨_, rfl⟩
  rw [hW]
  have K3 : Hid (Blk W wo.heap.size #[.slice a p.pts.length cap, .int .i64 p.pump, .int .i64 p.on, .int .i64 p.off, .slice al p.pts.length cl]) := by subst hW; exact zH (Blk.new _ _ _)
  replace K2 : Hid (Blk W (w.heap.size + 1 + 1) #[.slice none 0 0, .int .i64 0, .int .i64 0, .int .i64 0, .slice none 0 0]) := by subst hW; exact zH (K2.out.alloc _)
  replace HB : Hid (Below w.heap.size w W) := by subst hW; exact zH (bAlloc HB.out _)
  replace HRD : Hid (Reads W al (p.pts.length * 2) (fracs p.pts)) := by subst hW; exact zH (HRD.out.alloc _)
  clear hW
  refine wp_region_treeT 6 (by kernel_rfl) (by kernel_rfl) (fun wd hwd => ?_)
  have T := zH hwd
  clear hwd
  refine WE_yes 0 rfl (by kernel_rfl) (fun _ _ _ _ _ h => h) (by rfl) ?_; apply Exists.intro; refine ⟨fun w1 hb1 => ?_, ?_⟩; (focus (((obtain ⟨-, k3, -⟩ := K3.out.to (T.out.trans hb1)); have hb1 := zH hb1; go_simp); (try (go_bits; try go_simp)); (try (rw [if_pos (by omega)]; try go_simp)); (first | done | (with_reducible rfl) | exact rfl)))
  simp only [Act.put, zzT, zzO, zzS]
  refine WE_yes 1 rfl (by kernel_rfl) (fun _ _ _ _ _ h => h) (by rfl) ?_; apply Exists.intro; refine ⟨fun w1 hb1 => ?_, ?_⟩; (focus ((have hb1 := zH hb1; go_simp); (try (go_bits; try go_simp)); (try (rw [if_pos (by omega)]; try go_simp)); (first | done | (with_reducible rfl) | exact rfl)))
  simp only [Act.put, zzT, zzO, zzS]
  refine WE_yes 2 rfl (by kernel_rfl) (fun _ _ _ _ _ h => h) (by rfl) ?_; apply Exists.intro; refine ⟨fun w1 hb1 => ?_, ?_⟩; (focus ((have hb1 := zH hb1; go_simp); (try (go_bits; try go_simp)); (try (rw [if_pos (by omega)]; try go_simp)); (first | done | (with_reducible rfl) | exact rfl)))
  simp only [Act.put, zzT, zzO, zzS]
  refine WE_one 3 rfl (by decide) (by kernel_rfl) ?_
  unfold stepE
  go_wp2_with fail
  refine (HCE.out _ (bThen HB.out T.out)).mono ?_
  rintro e wd2 ⟨rfl, hb⟩
  have hbd := zH (hb.mono T.out.size)
  replace T := zH (bThen T.out hb)
  clear hb
  go_wp2_with fail
  refine ⟨hbd.out, ?_⟩
  clear hbd wd
  obtain ⟨wd, hwd⟩ : ∃ x, x = wd2 := ⟨_, rfl⟩
  subst hwd
  refine WE_one 4 rfl (by decide) (by kernel_rfl) ?_
  unfold stepE
  go_wp2_with fail
  refine ⟨(Below.refl _ _).alloc T.out.size _, ?_⟩
  refine WE_one 5 rfl (by decide) (by kernel_rfl) ?_
  unfold stepE
  go_wp2_with fail
  refine (oFirst2_new _ _ _ _ (by simp)).mono ?_
  rintro e w' ⟨rfl, rfl⟩
  rw [HE.out]
  go_wp2_with fail
  refine ⟨Below.refl _ _, ?_⟩
  refine WE_tail rfl (by kernel_rfl) ?_
  simp only [List.drop_succ_cons, List.drop_zero]
  replace K2 := zH (K2.out.to T.out)
  replace HRD := zH (HRD.out.to T.out)
  replace HB := zH (bThen HB.out T.out)
  clear T HCE
  obtain ⟨W6, hW6⟩ : ∃ W, wd.alloc (.cells #[.int .i64 (opSE p s1), .int .i64 (chCl c).2] 29) = W := ⟨_, rfl⟩
  rw [hW6]
  replace K2 : Hid (Blk W6 (w.heap.size + 1 + 1) #[.slice none 0 0, .int .i64 0, .int .i64 0, .int .i64 0, .slice none 0 0]) := by subst hW6; exact zH (K2.out.alloc _)
  replace HB : Hid (Below w.heap.size w W6) := by subst hW6; exact zH (bAlloc HB.out _)
  replace HRD : Hid (Reads W6 al (p.pts.length * 2) (fracs p.pts)) := by subst hW6; exact zH (HRD.out.alloc _)
  clear hW6
  obtain ⟨hs2, k2, f2⟩ := K2.out
  go_wp2_with fail
  have F := ((((K2.out.set 0 (.slice a p.pts.length cap)).set 1 (.int .i64 p.pump)).set 2 (.int .i64 p.on)).set 3 (.int .i64 p.off)).set 4 (.slice al p.pts.length cl)
  have F0 := F.2.1 0
  have F1 := F.2.1 1
  have F2 := F.2.1 2
  have F3 := F.2.1 3
  have F4 := F.2.1 4
  clear F k2 f2
  have hne : ∀ b off, al = some ⟨b, off, none⟩ → b ≠ w.heap.size + 1 + 1 := fun b off e => by have := HFR.out _ e; dsimp only at this; omega
  refine bodyPost_ret (v := .tuple #[.agg #[.slice a p.pts.length cap, .int .i64 p.pump, .int .i64 p.on, .int .i64 p.off, .slice al p.pts.length cl], .int .i64 er]) ?_ rfl ((HP.out _ _ _).2 ⟨al, cl, rfl, hcl, ?_, ?_, ?_⟩)
  · simp [results, Tryz.results140, go_sem, F0, F1, F2, F3, F4]
  · exact ((((HRD.out.other ⟨w.heap.size + 1 + 1, 0, none⟩ _ hne).other ⟨w.heap.size + 1 + 1, 1, none⟩ _ hne).other ⟨w.heap.size + 1 + 1, 2, none⟩ _ hne).other ⟨w.heap.size + 1 + 1, 3, none⟩ _ hne).other ⟨w.heap.size + 1 + 1, 4, none⟩ _ hne
  · exact ((((HB.out.setCell (p := ⟨w.heap.size + 1 + 1, 0, none⟩) (by simp; omega) _).setCell (p := ⟨w.heap.size + 1 + 1, 1, none⟩) (by simp; omega) _).setCell (p := ⟨w.heap.size + 1 + 1, 2, none⟩) (by simp; omega) _).setCell (p := ⟨w.heap.size + 1 + 1, 3, none⟩) (by simp; omega) _).setCell (p := ⟨w.heap.size + 1 + 1, 4, none⟩) (by simp; omega) _
  · intro q hq; have := HFR.out q hq; omega

theorem openLimit_any (p : Plt) (s : OSt) (c : List (Int × Int)) (lim : Int) (a ac : Option Addr) (cap cc : Nat) (w : World) (hlen : p.pts.length ≤ 1000) (hlc : c.length ≤ maxLen) (hrc : Reads w ac (c.length * 2) (fracs c)) (hr : Reads w a (p.pts.length * 2) (fracs p.pts)) :
    Calls Tryz.prog 109 #[.agg (plC p a cap), .agg #[.int .i64 s.1, .bool s.2], .slice ac c.length cc, .int .i64 lim] w (OpsPost p a cap (opLE p s.1 c lim) w) := by
  have HO := zH (fun W (hb : Below w.heap.size w W) => openClass_any p s c a ac cap cc W hlen hlc (hrc.to hb) (hr.to hb))
  have HE : Hid (firstE [opCE p s.1 c, unl (wthn lim 0 1000) 2] = opLE p s.1 c lim) := zH rfl
  clear hr hrc
  obtain ⟨n, hn⟩ : ∃ n, c.length = n := ⟨_, rfl⟩
  rw [hn] at HO hlc ⊢
  clear hn
  unfold maxLen at hlc
  obtain ⟨s1, sr⟩ := s
  dsimp only at HO HE ⊢
  have HP : Hid (∀ w e w', OpsPost p a cap (opLE p s1 c lim) w e w' ↔ ∃ al cl, e = .returned (.tuple #[.agg (plL p a cap al cl), .int .i64 (opLE p s1 c lim)]) ∧ p.pts.length ≤ cl ∧ Reads w' al (p.pts.length * 2) (fracs p.pts) ∧ Below w.heap.size w w' ∧ ∀ q, al = some q → w.heap.size ≤ q.block) := zH (fun w e w' => Iff.rfl)
  obtain ⟨er, her⟩ : ∃ e, opLE p s1 c lim = e := ⟨_, rfl⟩
  rw [her] at HE HP ⊢
  clear her
  go_enter Tryz.func109, Tryz.ntmps109
  go_wp2_with fail
  refine (HO.out _ (bAlloc (bAlloc (bAlloc (bSelf w) _) _) _)).mono ?_
  intro e wo hpost
  obtain ⟨al, cl, rfl, hcl, hrd, hb, hfr⟩ := hpost.ex
  have K2 : Hid (Blk wo (w.heap.size + 1 + 1) #[.slice none 0 0, .int .i64 0, .int .i64 0, .int .i64 0, .slice none 0 0]) := zH ((Blk.newAt _ _ _ (by simp)).to hb)
  have HB := zH (bThen (bAlloc (bAlloc (bAlloc (bSelf w) _) _) _) hb)
  have HRD := zH hrd
  have hfr : ∀ q, al = some q → w.heap.size + 1 + 1 + 1 ≤ q.block := fun q hq => by have := hfr q hq; simp at this; omega
  have HFR := zH hfr
  clear hb hrd hpost hfr HO
  go_wp2_with fail
  obtain ⟨W, hW⟩ : ∃ W, wo.alloc (.cells #[.slice a p.pts.length cap, .int .i64 p.pump, .int .i64 p.on, .int .i64 p.off, .slice al p.pts.length cl] 170) = W := ⟨_, rfl⟩
  rw [hW]
  have K3 : Hid (Blk W wo.heap.size #[.slice a p.pts.length cap, .int .i64 p.pump, .int .i64 p.on, .int .i64 p.off, .slice al p.pts.length cl]) := by subst hW; exact zH (Blk.new _ _ _)
  replace K2 : Hid (Blk W (w.heap.size + 1 + 1) #[.slice none 0 0, .int .i64 0, .int .i64 0, .int .i64 0, .slice none 0 0]) := by subst hW; exact zH (K2.out.alloc _)
  replace HB : Hid (Below w.heap.size w W) := by subst hW; exact zH (bAlloc HB.out _)
  replace HRD : Hid (Reads W al (p.pts.length * 2) (fracs p.pts)) := by subst hW; exact zH (HRD.out.alloc _)
  clear hW
  refine wp_region_treeT 7 (by kernel_rfl) (by kernel_rfl) (fun wd hwd => ?_)
  have T := zH hwd
  clear hwd
  refine WE_yes 0 rfl (by kernel_rfl) (fun _ _ _ _ _ h => h) (by rfl) ?_; apply Exists.intro; refine ⟨fun w1 hb1 => ?_, ?_⟩; (focus (((obtain ⟨-, k3, -⟩ := K3.out.to (T.out.trans hb1)); have hb1 := zH hb1; go_simp); (try (go_bits; try go_simp)); (try (rw [if_pos (by omega)]; try go_simp)); (first | done | (with_reducible rfl) | exact rfl)))
  simp only [Act.put, zzT, zzO, zzS]
  refine WE_yes 1 rfl (by kernel_rfl) (fun _ _ _ _ _ h => h) (by rfl) ?_; apply Exists.intro; refine ⟨fun w1 hb1 => ?_, ?_⟩; (focus ((have hb1 := zH hb1; go_simp); (try (go_bits; try go_simp)); (try (rw [if_pos (by omega)]; try go_simp)); (first | done | (with_reducible rfl) | exact rfl)))
  simp only [Act.put, zzT, zzO, zzS]
  refine WE_yes 2 rfl (by kernel_rfl) (fun _ _ _ _ _ h => h) (by rfl) ?_; apply Exists.intro; refine ⟨fun w1 hb1 => ?_, ?_⟩; (focus ((have hb1 := zH hb1; go_simp); (try (go_bits; try go_simp)); (try (rw [if_pos (by omega)]; try go_simp)); (first | done | (with_reducible rfl) | exact rfl)))
  simp only [Act.put, zzT, zzO, zzS]
  refine WE_yes 3 rfl (by kernel_rfl) (fun _ _ _ _ _ h => h) (by rfl) ?_; apply Exists.intro; refine ⟨fun w1 hb1 => ?_, ?_⟩; (focus ((have hb1 := zH hb1; go_simp); (try (go_bits; try go_simp)); (try (rw [if_pos (by omega)]; try go_simp)); (first | done | ((go_at_call 135; refine (isPressure_any _ _).mono ?_; rintro e w' ⟨rfl, rfl⟩; exact ⟨rfl, rfl⟩)) | (with_reducible rfl) | exact rfl)))
  simp only [Act.put, zzT, zzO, zzS]
  refine WE_yes 4 rfl (by kernel_rfl) (fun _ _ _ _ _ h => h) (by rfl) ?_; apply Exists.intro; refine ⟨fun w1 hb1 => ?_, ?_⟩; (focus ((have hb1 := zH hb1; go_simp); (try (go_bits; try go_simp)); (try (rw [if_pos (by omega)]; try go_simp)); (first | done | ((go_at_call 94; refine (oUnless_any _ _ _).mono ?_; rintro e w' ⟨rfl, rfl⟩; exact ⟨rfl, rfl⟩)) | (with_reducible rfl) | exact rfl)))
  simp only [Act.put, zzT, zzO, zzS]
  refine WE_one 5 rfl (by decide) (by kernel_rfl) ?_
  unfold stepE
  go_wp2_with fail
  refine ⟨(Below.refl _ _).alloc T.out.size _, ?_⟩
  refine WE_one 6 rfl (by decide) (by kernel_rfl) ?_
  unfold stepE
  go_wp2_with fail
  refine (oFirst2_new _ _ _ _ (by simp)).mono ?_
  rintro e w' ⟨rfl, rfl⟩
  rw [HE.out]
  go_wp2_with fail
  refine ⟨Below.refl _ _, ?_⟩
  refine WE_tail rfl (by kernel_rfl) ?_
  simp only [List.drop_succ_cons, List.drop_zero]
  replace K2 := zH (K2.out.to T.out)
  replace HRD := zH (HRD.out.to T.out)
  replace HB := zH (bThen HB.out T.out)
  clear T 
  obtain ⟨W6, hW6⟩ : ∃ W, wd.alloc (.cells #[.int .i64 (opCE p s1 c), .int .i64 (unl (wthn lim 0 1000) 2)] 29) = W := ⟨_, rfl⟩
  rw [hW6]
  replace K2 : Hid (Blk W6 (w.heap.size + 1 + 1) #[.slice none 0 0, .int .i64 0, .int .i64 0, .int .i64 0, .slice none 0 0]) := by subst hW6; exact zH (K2.out.alloc _)
  replace HB : Hid (Below w.heap.size w W6) := by subst hW6; exact zH (bAlloc HB.out _)
  replace HRD : Hid (Reads W6 al (p.pts.length * 2) (fracs p.pts)) := by subst hW6; exact zH (HRD.out.alloc _)
  clear hW6
  obtain ⟨hs2, k2, f2⟩ := K2.out
  go_wp2_with fail
  have F := ((((K2.out.set 0 (.slice a p.pts.length cap)).set 1 (.int .i64 p.pump)).set 2 (.int .i64 p.on)).set 3 (.int .i64 p.off)).set 4 (.slice al p.pts.length cl)
  have F0 := F.2.1 0
  have F1 := F.2.1 1
  have F2 := F.2.1 2
  have F3 := F.2.1 3
  have F4 := F.2.1 4
  clear F k2 f2
  have hne : ∀ b off, al = some ⟨b, off, none⟩ → b ≠ w.heap.size + 1 + 1 := fun b off e => by have := HFR.out _ e; dsimp only at this; omega
  refine bodyPost_ret (v := .tuple #[.agg #[.slice a p.pts.length cap, .int .i64 p.pump, .int .i64 p.on, .int .i64 p.off, .slice al p.pts.length cl], .int .i64 er]) ?_ rfl ((HP.out _ _ _).2 ⟨al, cl, rfl, hcl, ?_, ?_, ?_⟩)
  · simp [results, Tryz.results109, go_sem, F0, F1, F2, F3, F4]
  · exact ((((HRD.out.other ⟨w.heap.size + 1 + 1, 0, none⟩ _ hne).other ⟨w.heap.size + 1 + 1, 1, none⟩ _ hne).other ⟨w.heap.size + 1 + 1, 2, none⟩ _ hne).other ⟨w.heap.size + 1 + 1, 3, none⟩ _ hne).other ⟨w.heap.size + 1 + 1, 4, none⟩ _ hne
  · exact ((((HB.out.setCell (p := ⟨w.heap.size + 1 + 1, 0, none⟩) (by simp; omega) _).setCell (p := ⟨w.heap.size + 1 + 1, 1, none⟩) (by simp; omega) _).setCell (p := ⟨w.heap.size + 1 + 1, 2, none⟩) (by simp; omega) _).setCell (p := ⟨w.heap.size + 1 + 1, 3, none⟩) (by simp; omega) _).setCell (p := ⟨w.heap.size + 1 + 1, 4, none⟩) (by simp; omega) _
  · intro q hq; have := HFR.out q hq; omega

theorem openRange_any (p : Plt) (lo hi lim : Int) (a : Option Addr) (cap : Nat) (w : World) (hlen : p.pts.length ≤ 1000) (hr : Reads w a (p.pts.length * 2) (fracs p.pts)) :
    Calls Tryz.prog 122 #[.agg (plC p a cap), .agg #[.int .i64 lo, .int .i64 hi], .int .i64 lim] w (OpsPost p a cap (opRE p (lo, hi) lim) w) := by
  have HO := zH (fun W (hb : Below w.heap.size w W) => (open_any p a cap W hlen (hr.to hb)).mono fun e w' (h : OpnPost p a cap W e w') => (show OpsPost p a cap (chP p).2 W e w' from h))
  have HE : Hid (firstE [(chP p).2, rgE (lo, hi), unl (wthn lim 0 1000) 2] = opRE p (lo, hi) lim) := zH rfl
  clear hr
  have HP : Hid (∀ w e w', OpsPost p a cap (opRE p (lo, hi) lim) w e w' ↔ ∃ al cl, e = .returned (.tuple #[.agg (plL p a cap al cl), .int .i64 (opRE p (lo, hi) lim)]) ∧ p.pts.length ≤ cl ∧ Reads w' al (p.pts.length * 2) (fracs p.pts) ∧ Below w.heap.size w w' ∧ ∀ q, al = some q → w.heap.size ≤ q.block) := zH (fun w e w' => Iff.rfl)
  obtain ⟨er, her⟩ : ∃ e, opRE p (lo, hi) lim = e := ⟨_, rfl⟩
  rw [her] at HE HP ⊢
  clear her
  go_enter Tryz.func122, Tryz.ntmps122
  go_wp2_with fail
  refine (HO.out _ (bAlloc (bAlloc (bAlloc (bSelf w) _) _) _)).mono ?_
  intro e wo hpost
  obtain ⟨al, cl, rfl, hcl, hrd, hb, hfr⟩ := hpost.ex
  have K4 : Hid (Blk wo (w.heap.size + 1) #[.int .i64 lo, .int .i64 hi]) := zH (((Blk.newAt _ _ _ (by simp)).alloc _).to hb)
  have K2 : Hid (Blk wo (w.heap.size + 1 + 1) #[.slice none 0 0, .int .i64 0, .int .i64 0, .int .i64 0, .slice none 0 0]) := zH ((Blk.newAt _ _ _ (by simp)).to hb)
  have HB := zH (bThen (bAlloc (bAlloc (bAlloc (bSelf w) _) _) _) hb)
  have HRD := zH hrd
  have hfr : ∀ q, al = some q → w.heap.size + 1 + 1 + 1 ≤ q.block := fun q hq => by have := hfr q hq; simp at this; omega
  have HFR := zH hfr
  clear hb hrd hpost hfr HO
  go_wp2_with fail
  obtain ⟨W, hW⟩ : ∃ W, wo.alloc (.cells #[.slice a p.pts.length cap, .int .i64 p.pump, .int .i64 p.on, .int .i64 p.off, .slice al p.pts.length cl] 170) = W := ⟨_, rfl⟩
  rw [hW]
  have K3 : Hid (Blk W wo.heap.size #[.slice a p.pts.length cap, .int .i64 p.pump, .int .i64 p.on, .int .i64 p.off, .slice al p.pts.length cl]) := by subst hW; exact zH (Blk.new _ _ _)
  replace K2 : Hid (Blk W (w.heap.size + 1 + 1) #[.slice none 0 0, .int .i64 0, .int .i64 0, .int .i64 0, .slice none 0 0]) := by subst hW; exact zH (K2.out.alloc _)
  replace HB : Hid (Below w.heap.size w W) := by subst hW; exact zH (bAlloc HB.out _)
  replace HRD : Hid (Reads W al (p.pts.length * 2) (fracs p.pts)) := by subst hW; exact zH (HRD.out.alloc _)
  replace K4 : Hid (Blk W (w.heap.size + 1) #[.int .i64 lo, .int .i64 hi]) := by subst hW; exact zH (K4.out.alloc _)
  clear hW
  refine wp_region_treeT 9 (by kernel_rfl) (by kernel_rfl) (fun wd hwd => ?_)
  have T := zH hwd
  clear hwd
  refine WE_yes 0 rfl (by kernel_rfl) (fun _ _ _ _ _ h => h) (by rfl) ?_; apply Exists.intro; refine ⟨fun w1 hb1 => ?_, ?_⟩; (focus (((obtain ⟨-, k3, -⟩ := K3.out.to (T.out.trans hb1)); have hb1 := zH hb1; go_simp); (try (go_bits; try go_simp)); (try (rw [if_pos (by omega)]; try go_simp)); (first | done | (with_reducible rfl) | exact rfl)))
  simp only [Act.put, zzT, zzO, zzS]
  refine WE_yes 1 rfl (by kernel_rfl) (fun _ _ _ _ _ h => h) (by rfl) ?_; apply Exists.intro; refine ⟨fun w1 hb1 => ?_, ?_⟩; (focus ((have hb1 := zH hb1; go_simp); (try (go_bits; try go_simp)); (try (rw [if_pos (by omega)]; try go_simp)); (first | done | (with_reducible rfl) | exact rfl)))
  simp only [Act.put, zzT, zzO, zzS]
  refine WE_yes 2 rfl (by kernel_rfl) (fun _ _ _ _ _ h => h) (by rfl) ?_; apply Exists.intro; refine ⟨fun w1 hb1 => ?_, ?_⟩; (focus (((obtain ⟨-, k4, -⟩ := K4.out.to (T.out.trans hb1)); have hb1 := zH hb1; go_simp); (try (go_bits; try go_simp)); (try (rw [if_pos (by omega)]; try go_simp)); (first | done | (with_reducible rfl) | exact rfl)))
  simp only [Act.put, zzT, zzO, zzS]
  refine WE_yes 4 rfl (by kernel_rfl) (fun _ _ _ _ _ h => h) (by rfl) ?_; apply Exists.intro; refine ⟨fun w1 hb1 => ?_, ?_⟩; (focus ((have hb1 := zH hb1; go_simp); (try (go_bits; try go_simp)); (try (rw [if_pos (by omega)]; try go_simp)); (first | done | (with_reducible rfl) | exact rfl)))
  simp only [Act.put, zzT, zzO, zzS]
  refine WE_one 3 rfl (by decide) (by kernel_rfl) ?_
  unfold stepE
  go_wp2_with fail
  refine (rangeErr_any _ _ _).mono ?_
  rintro e wd2 ⟨rfl, hb⟩
  have hbd := zH (hb.mono T.out.size)
  replace T := zH (bThen T.out hb)
  clear hb
  go_wp2_with fail
  refine ⟨hbd.out, ?_⟩
  clear hbd wd
  obtain ⟨wd, hwd⟩ : ∃ x, x = wd2 := ⟨_, rfl⟩
  subst hwd
  refine WE_yes 5 rfl (by kernel_rfl) (fun _ _ _ _ _ h => h) (by rfl) ?_; apply Exists.intro; refine ⟨fun w1 hb1 => ?_, ?_⟩; (focus ((have hb1 := zH hb1; go_simp); (try (go_bits; try go_simp)); (try (rw [if_pos (by omega)]; try go_simp)); (first | done | ((go_at_call 135; refine (isPressure_any _ _).mono ?_; rintro e w' ⟨rfl, rfl⟩; exact ⟨rfl, rfl⟩)) | (with_reducible rfl) | exact rfl)))
  simp only [Act.put, zzT, zzO, zzS]
  refine WE_yes 6 rfl (by kernel_rfl) (fun _ _ _ _ _ h => h) (by rfl) ?_; apply Exists.intro; refine ⟨fun w1 hb1 => ?_, ?_⟩; (focus ((have hb1 := zH hb1; go_simp); (try (go_bits; try go_simp)); (try (rw [if_pos (by omega)]; try go_simp)); (first | done | ((go_at_call 94; refine (oUnless_any _ _ _).mono ?_; rintro e w' ⟨rfl, rfl⟩; exact ⟨rfl, rfl⟩)) | (with_reducible rfl) | exact rfl)))
  simp only [Act.put, zzT, zzO, zzS]
  refine WE_one 7 rfl (by decide) (by kernel_rfl) ?_
  unfold stepE
  go_wp2_with fail
  refine ⟨(Below.refl _ _).alloc T.out.size _, ?_⟩
  refine WE_one 8 rfl (by decide) (by kernel_rfl) ?_
  unfold stepE
  go_wp2_with fail
  refine (oFirst3_new _ _ _ _ _ (by simp)).mono ?_
  rintro e w' ⟨rfl, rfl⟩
  rw [HE.out]
  go_wp2_with fail
  refine ⟨Below.refl _ _, ?_⟩
  refine WE_tail rfl (by kernel_rfl) ?_
  simp only [List.drop_succ_cons, List.drop_zero]
  replace K2 := zH (K2.out.to T.out)
  replace HRD := zH (HRD.out.to T.out)
  replace HB := zH (bThen HB.out T.out)
  clear T 
  obtain ⟨W6, hW6⟩ : ∃ W, wd.alloc (.cells #[.int .i64 (chP p).2, .int .i64 (rgE (lo, hi)), .int .i64 (unl (wthn lim 0 1000) 2)] 29) = W := ⟨_, rfl⟩
  rw [hW6]
  replace K2 : Hid (Blk W6 (w.heap.size + 1 + 1) #[.slice none 0 0, .int .i64 0, .int .i64 0, .int .i64 0, .slice none 0 0]) := by subst hW6; exact zH (K2.out.alloc _)
  replace HB : Hid (Below w.heap.size w W6) := by subst hW6; exact zH (bAlloc HB.out _)
  replace HRD : Hid (Reads W6 al (p.pts.length * 2) (fracs p.pts)) := by subst hW6; exact zH (HRD.out.alloc _)
  clear hW6
  obtain ⟨hs2, k2, f2⟩ := K2.out
  go_wp2_with fail
  have F := ((((K2.out.set 0 (.slice a p.pts.length cap)).set 1 (.int .i64 p.pump)).set 2 (.int .i64 p.on)).set 3 (.int .i64 p.off)).set 4 (.slice al p.pts.length cl)
  have F0 := F.2.1 0
  have F1 := F.2.1 1
  have F2 := F.2.1 2
  have F3 := F.2.1 3
  have F4 := F.2.1 4
  clear F k2 f2
  have hne : ∀ b off, al = some ⟨b, off, none⟩ → b ≠ w.heap.size + 1 + 1 := fun b off e => by have := HFR.out _ e; dsimp only at this; omega
  refine bodyPost_ret (v := .tuple #[.agg #[.slice a p.pts.length cap, .int .i64 p.pump, .int .i64 p.on, .int .i64 p.off, .slice al p.pts.length cl], .int .i64 er]) ?_ rfl ((HP.out _ _ _).2 ⟨al, cl, rfl, hcl, ?_, ?_, ?_⟩)
  · simp [results, Tryz.results122, go_sem, F0, F1, F2, F3, F4]
  · exact ((((HRD.out.other ⟨w.heap.size + 1 + 1, 0, none⟩ _ hne).other ⟨w.heap.size + 1 + 1, 1, none⟩ _ hne).other ⟨w.heap.size + 1 + 1, 2, none⟩ _ hne).other ⟨w.heap.size + 1 + 1, 3, none⟩ _ hne).other ⟨w.heap.size + 1 + 1, 4, none⟩ _ hne
  · exact ((((HB.out.setCell (p := ⟨w.heap.size + 1 + 1, 0, none⟩) (by simp; omega) _).setCell (p := ⟨w.heap.size + 1 + 1, 1, none⟩) (by simp; omega) _).setCell (p := ⟨w.heap.size + 1 + 1, 2, none⟩) (by simp; omega) _).setCell (p := ⟨w.heap.size + 1 + 1, 3, none⟩) (by simp; omega) _).setCell (p := ⟨w.heap.size + 1 + 1, 4, none⟩) (by simp; omega) _
  · intro q hq; have := HFR.out q hq; omega
end
end Go.Proofs.YtjfedpblkejmkaaGreat
