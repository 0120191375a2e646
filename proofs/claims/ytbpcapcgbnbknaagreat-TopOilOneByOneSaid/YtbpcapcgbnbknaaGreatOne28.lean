/-
  Texts of this claim, in their build order: OA10 OP4.
-/
import Derived.Test.YtbpcapcgbnbknaaGreatOne26
import Derived.Test.YtbpcapcgbnbknaaGreatOne7
import Derived.Test.YtbpcapcgbnbknaaGreatOne20
import Derived.Test.YtbpcapcgbnbknaaGreatOne0

namespace Go.Proofs.YtbpcapcgbnbknaaGreat
section
set_option maxRecDepth 100000
set_option maxHeartbeats 3200000
open Go.RowKit
attribute [local go_sem] Oper.semAt_some

/-- The error of a range of demands. -/
def rgE (r : Int × Int) : Int := firstE [unl (wthn r.1 0 50 && wthn r.2 0 50) 2, unl (decide (r.1 ≤ r.2)) 9]
def chCl (c : List (Int × Int)) : Int × Int := if 20 < c.length then (0, 8) else eachR (fun k => rgE (fg c k)) 0 c.length
theorem rgE_ok {r : Int × Int} (h : rgE r = 0) : 0 ≤ r.1 ∧ r.2 ≤ 50 ∧ r.1 ≤ r.2 := by
  obtain ⟨h1, h2⟩ := firstE2.1 (show firstE [_, _] = 0 from h)
  rw [unlZ (by decide)] at h1 h2
  simp only [Bool.and_eq_true, wthn_iff, decide_eq_true_eq] at h1 h2
  omega
theorem chCl_ok {c : List (Int × Int)} (h : (chCl c).2 = 0) : c.length ≤ 20 ∧ ∀ k, k < c.length → 0 ≤ (fg c k).1 ∧ (fg c k).2 ≤ 50 ∧ (fg c k).1 ≤ (fg c k).2 := by
  unfold chCl at h
  by_cases hl : 20 < c.length
  · rw [if_pos hl] at h; exact absurd h (by decide)
  · rw [if_neg hl] at h
    exact ⟨by omega, fun k hk => rgE_ok (eachR_ok _ _ h k (by omega) (by omega))⟩

theorem rangeErr_any (lo hi : Int) (w : World) :
    Calls Tryz.prog 192 #[.agg #[.int .i64 lo, .int .i64 hi]] w fun e w' => e = .returned (.int .i64 (rgE (lo, hi))) ∧ Below w.heap.size w w' := by
  have H2 : Hid (firstE [unl (wthn lo 0 50 && wthn hi 0 50) 2, unl (decide (lo ≤ hi)) 9] = rgE (lo, hi)) := zH rfl
  obtain ⟨re, hre⟩ : ∃ e, rgE (lo, hi) = e := ⟨_, rfl⟩
  rw [hre] at H2 ⊢
  clear hre
  cases hv : wthn lo 0 50
  all_goals
    rw [hv] at H2
    have HV := zH hv
    clear hv
    go_enter Tryz.func192, Tryz.ntmps192
    go_wp2_with fail
    obtain ⟨W, hW⟩ : ∃ W, w.alloc (.cells #[.int .i64 lo, .int .i64 hi] 23) = W := ⟨_, rfl⟩
    rw [hW]
    have K0 : Hid (Blk W w.heap.size #[.int .i64 lo, .int .i64 hi]) := by subst hW; exact zH (Blk.new _ _ _)
    have HB : Hid (Below w.heap.size w W) := by subst hW; exact zH (bAlloc (bSelf w) _)
    clear hW
    refine wp_region_quiet_tail 15 (fun w' => Below (World.heap W).size (W) w') (by kernel_rfl) (by kernel_rfl) (Below.refl _ _).drew ?_
    simp only [List.take_succ_cons, List.take_zero, List.drop_succ_cons, List.drop_zero]
    refine WQ.out ?_
    repeat (first | (refine WQ_no (by rfl) ?_; (simp only [Act.put, zzT, zzO, zzS])) | (refine WQ_yes (by rfl) ?_; apply Exists.intro; refine ⟨fun w1 hb1 => ?_, ?_⟩; (focus (((obtain ⟨-, k0, -⟩ := K0.out.to hb1); have hb1 := zH hb1; go_simp); (try (go_bits; try go_simp)); (try (rw [if_pos (by omega)]; try go_simp)); (first | done | ((first | (go_at_call 82; refine (isFlow_any _ _).mono ?_; rintro e w' ⟨rfl, rfl⟩; first | exact ⟨by rw [HV.out], hb1.out⟩ | exact ⟨rfl, hb1.out⟩) | (go_at_call 80; refine (oUnless_any _ _ _).mono ?_; rintro e w' ⟨rfl, rfl⟩; exact ⟨rfl, hb1.out⟩))) | (with_reducible rfl) | exact rfl))); (simp only [Act.put, zzT, zzO, zzS])))
    refine WQ_nil ?_
    intro w1 hb1
    replace HB := zH (bThen HB.out hb1)
    clear hb1
    go_wp2_with fail
    refine (oFirst2_new _ _ _ _ (by simp)).mono ?_
    rintro e w' ⟨rfl, rfl⟩
    go_wp2_with fail
    go_ret
    exact ⟨ret_int (by rw [← H2.out]; first | rfl | simp), bAlloc HB.out _⟩

theorem class1_any (k lo hi : Int) (w : World) :
    Calls Tryz.prog 191 #[.int .i64 k, .agg #[.int .i64 lo, .int .i64 hi]] w fun e w' => e = .returned (.int .i64 (rgE (lo, hi))) ∧ Below w.heap.size w w' := by
  go_enter Tryz.func191, Tryz.ntmps191
  go_wp2_with fail
  refine (rangeErr_any _ _ _).mono ?_
  rintro e w1 ⟨rfl, hb⟩
  have HB := zH (bThen (bAlloc (bSelf w) _) hb)
  clear hb
  go_wp2_with fail
  go_ret
  exact ⟨rfl, HB.out⟩

theorem CheckClass_any (c : List (Int × Int)) (a : Option Addr) (cap : Nat) (w : World) (hlen : c.length ≤ maxLen) (hr : Reads w a (c.length * 2) (fracs c)) :
    Calls Tryz.prog 155 #[.slice a c.length cap] w fun e w' => e = .returned (.tuple #[.int .i64 (chCl c).1, .int .i64 (chCl c).2]) ∧ Below w.heap.size w w' := by
  unfold maxLen at hlen
  by_cases hl : 20 < c.length
  · have e1 : chCl c = (0, 8) := by unfold chCl; rw [if_pos hl]
    rw [e1]
    clear hr
    go_enter Tryz.func155, Tryz.ntmps155
    go_wp2_with fail
    go_ret2
    exact ⟨rfl, bSelf w⟩
  · have e1 : chCl c = eachR (fun k => rgE (fg c k)) 0 c.length := by unfold chCl; rw [if_neg hl]
    rw [e1]
    have hl2 : c.length ≤ 20 := by omega
    have HE := zH (eachRg_any c a cap 191 #[] w (fun k => rgE (fg c k)) (fun _ W => Below w.heap.size w W) (by omega) (by intro args w; go_simp) (bSelf w) (fun _ W _ h => hr.to h) (fun _ W o h => bAlloc h o)
      (fun k W hk h => (class1_any k _ _ W).mono fun e w'' ⟨he, hb⟩ => ⟨he, bThen h hb⟩))
    obtain ⟨er, her⟩ : ∃ e, eachR (fun k => rgE (fg c k)) 0 c.length = e := ⟨_, rfl⟩
    rw [her] at HE ⊢
    clear e1 her hr
    go_enter Tryz.func155, Tryz.ntmps155
    go_wp2_with fail
    refine HE.out.mono ?_
    rintro e w1 ⟨rfl, kk, -, hb, -⟩
    have HB := zH hb
    clear hb
    go_wp2_with fail
    go_ret2
    exact ⟨rfl, HB.out⟩

theorem classErr_any (c : List (Int × Int)) (a : Option Addr) (cap : Nat) (w : World) (hlen : c.length ≤ maxLen) (hr : Reads w a (c.length * 2) (fracs c)) :
    Calls Tryz.prog 131 #[.slice a c.length cap] w fun e w' => e = .returned (.int .i64 (chCl c).2) ∧ Below w.heap.size w w' := by
  have HC := zH (CheckClass_any c a cap w hlen hr)
  obtain ⟨e1, he1⟩ : ∃ e, (chCl c).1 = e := ⟨_, rfl⟩
  obtain ⟨e2, he2⟩ : ∃ e, (chCl c).2 = e := ⟨_, rfl⟩
  rw [he1, he2] at HC
  rw [he2]
  clear he1 he2 hr hlen
  go_enter Tryz.func131, Tryz.ntmps131
  go_wp2_with fail
  refine HC.out.mono ?_
  rintro e w1 ⟨rfl, hb⟩
  have HB := zH hb
  clear hb
  go_wp2_with fail
  go_ret
  exact ⟨rfl, HB.out⟩

/-- The error of a plant, a state and a class; and of a limit besides. -/
def opCE (p : Plt) (v : Int) (c : List (Int × Int)) : Int := firstE [opSE p v, (chCl c).2]
def opLE (p : Plt) (v : Int) (c : List (Int × Int)) (lim : Int) : Int := firstE [opCE p v c, unl (wthn lim 0 1000) 2]
theorem openClass_any (p : Plt) (s : OSt) (c : List (Int × Int)) (a ac : Option Addr) (cap cc : Nat) (w : World) (hlen : p.pts.length ≤ 1000) (hlc : c.length ≤ maxLen) (hrc : Reads w ac (c.length * 2) (fracs c)) (hr : Reads w a (p.pts.length * 2) (fracs p.pts)) :
    Calls Tryz.prog 89 #[.agg (plC p a cap), .agg #[.int .i64 s.1, .bool s.2], .slice ac c.length cc] w (OpsPost p a cap (opCE p s.1 c) w) := by
  have HO := zH (fun W (hb : Below w.heap.size w W) => openState_any p s a cap W hlen (hr.to hb))
  have HCE := zH (fun W (hb : Below w.heap.size w W) => classErr_any c ac cc W hlc (hrc.to hb))
  have HE : Hid (firstE [opSE p s.1, (chCl c).2] = opCE p s.1 c) := zH rfl
  clear hr hrc
  obtain ⟨n, hn⟩ : ∃ n, c.length = n := ⟨_, rfl⟩
  rw [hn] at HCE hlc ⊢
  clear hn
  unfold maxLen at hlc
  obtain ⟨s1, sr⟩ := s
  dsimp only at HO HE ⊢
  have HP : Hid (∀ w e w', OpsPost p a cap (opCE p s1 c) w e w' ↔ ∃ al cl, e = .returned (.tuple #[.agg (plL p a cap al cl), .int .i64 (opCE p s1 c)]) ∧ p.pts.length ≤ cl ∧ Reads w' al (p.pts.length * 2) (fracs p.pts) ∧ Below w.heap.size w w' ∧ ∀ q, al = some q → w.heap.size ≤ q.block) := zH (fun w e w' => Iff.rfl)
  obtain ⟨er, her⟩ : ∃ e, opCE p s1 c = e := ⟨_, rfl⟩
  rw [her] at HE HP ⊢
  clear her
  go_enter Tryz.func89, Tryz.ntmps89
  go_wp2_with fail
  refine (HO.out _ (bAlloc (bAlloc (bAlloc (bSelf w) _) _) _)).mono ?_
  intro e wo hpost
  obtain ⟨al, cl, rfl, hcl, hrd, hb, hfr⟩ := hpost.ex
  have K2 : Hid (Blk wo (w.heap.size + 1 + 1) #[.slice none 0 0, .int .i64 0, .int .i64 0, .int .i64 0, .slice none 0 0]) := zH ((Blk.newAt _ _ _ (by simp)).to hb)
  have HB := zH (bThen (bAlloc (bAlloc (bAlloc (bSelf w) _) _) _) hb)
  have HRD := zH hrd
  have hfr : ∀ q, al = some q → w.heap.size + 1 + 1 + 1 ≤ q.block := fun q hq => by have := hfr q hq; simp at this; omega
  have HFR := zH hfr
  clear hb hrd hpost hfr HO
  go_wp2_with fail
  obtain ⟨W, hW⟩ : ∃ W, wo.alloc (.cells #[.slice a p.pts.length cap, .int .i64 p.pump, .int .i64 p.on, .int .i64 p.off, .slice al p.pts.length cl] 145) = W := ⟨_, rfl⟩
  rw [hW]
  have K3 : Hid (Blk W wo.heap.size #[.slice a p.pts.length cap, .int .i64 p.pump, .int .i64 p.on, .int .i64 p.off, .slice al p.pts.length cl]) := by subst hW; exact zH (Blk.new _ _ _)
  replace K2 : Hid (Blk W (w.heap.size + 1 + 1) #[.slice none 0 0, .int .i64 0, .int .i64 0, .int .i64 0, .slice none 0 0]) := by subst hW; exact zH (K2.out.alloc _)
  replace HB : Hid (Below w.heap.size w W) := by subst hW; exact zH (bAlloc HB.out _)
  replace HRD : Hid (Reads W al (p.pts.length * 2) (fracs p.pts)) := by subst hW; exact zH (HRD.out.alloc _)
  clear hW
  refine wp_region_treeT 6 (by kernel_rfl) (by kernel_rfl) (fun wd hwd => ?_)
  have T := zH hwd
  clear hwd
  refine WE_yes 0 rfl (by kernel_rfl) (fun _ _ _ _ _ h => h) (by rfl) ?_; apply Exists.intro; refine ⟨fun w1 hb1 => ?_, ?_⟩; (focus (((obtain ⟨-, k3, -⟩ := K3.out.to (T.out.trans hb1)); have hb1 := zH hb1; go_simp); (try (go_bits; try go_simp)); (try (rw [if_pos (by omega)]; try go_simp)); (first | done | (with_reducible rfl) | exact rfl)))
  simp only [Act.put, zzT, zzO, zzS]
  refine WE_yes 1 rfl (by kernel_rfl) (fun _ _ _ _ _ h => h) (by rfl) ?_; apply Exists.intro; refine ⟨fun w1 hb1 => ?_, ?_⟩; (focus ((have hb1 := zH hb1; go_simp); (try (go_bits; try go_simp)); (try (rw [if_pos (by omega)]; try go_simp)); (first | done | (with_reducible rfl) | exact rfl)))
  simp only [Act.put, zzT, zzO, zzS]
  refine WE_yes 2 rfl (by kernel_rfl) (fun _ _ _ _ _ h => h) (by rfl) ?_; apply Exists.intro; refine ⟨fun w1 hb1 => ?_, ?_⟩; (focus ((have hb1 := zH hb1; go_simp); (try (go_bits; try go_simp)); (try (rw [if_pos (by omega)]; try go_simp)); (first | done | (with_reducible rfl) | exact rfl)))
  simp only [Act.put, zzT, zzO, zzS]
  refine WE_one 3 rfl (by decide) (by kernel_rfl) ?_
  unfold stepE
  go_wp2_with fail
  refine (HCE.out _ (bThen HB.out T.out)).mono ?_
  rintro e wd2 ⟨rfl, hb⟩
  have hbd := zH (hb.mono T.out.size)
  replace T := zH (bThen T.out hb)
  clear hb
  go_wp2_with fail
  refine ⟨hbd.out, ?_⟩
  clear hbd wd
  obtain ⟨wd, hwd⟩ : ∃ x, x = wd2 := ⟨_, rfl⟩
  subst hwd
  refine WE_one 4 rfl (by decide) (by kernel_rfl) ?_
  unfold stepE
  go_wp2_with fail
  refine ⟨(Below.refl _ _).alloc T.out.size _, ?_⟩
  refine WE_one 5 rfl (by decide) (by kernel_rfl) ?_
  unfold stepE
  go_wp2_with fail
  refine (oFirst2_new _ _ _ _ (by simp)).mono ?_
  rintro e w' ⟨rfl, rfl⟩
  rw [HE.out]
  go_wp2_with fail
  refine ⟨Below.refl _ _, ?_⟩
  refine WE_tail rfl (by kernel_rfl) ?_
  simp only [List.drop_succ_cons, List.drop_zero]
  replace K2 := zH (K2.out.to T.out)
  replace HRD := zH (HRD.out.to T.out)
  replace HB := zH (bThen HB.out T.out)
  clear T HCE
  obtain ⟨W6, hW6⟩ : ∃ W, wd.alloc (.cells #[.int .i64 (opSE p s1), .int .i64 (chCl c).2] 29) = W := ⟨_, rfl⟩
  rw [hW6]
  replace K2 : Hid (Blk W6 (w.heap.size + 1 + 1) #[.slice none 0 0, .int .i64 0, .int .i64 0, .int .i64 0, .slice none 0 0]) := by subst hW6; exact zH (K2.out.alloc _)
  replace HB : Hid (Below w.heap.size w W6) := by subst hW6; exact zH (bAlloc HB.out _)
  replace HRD : Hid (Reads W6 al (p.pts.length * 2) (fracs p.pts)) := by subst hW6; exact zH (HRD.out.alloc _)
  clear hW6
  obtain ⟨hs2, k2, f2⟩ := K2.out
  go_wp2_with fail
  have F := ((((K2.out.set 0 (.slice a p.pts.length cap)).set 1 (.int .i64 p.pump)).set 2 (.int .i64 p.on)).set 3 (.int .i64 p.off)).set 4 (.slice al p.pts.length cl)
  have F0 := F.2.1 0
  have F1 := F.2.1 1
  have F2 := F.2.1 2
  have F3 := F.2.1 3
  have F4 := F.2.1 4
  clear F k2 f2
  have hne : ∀ b off, al = some ⟨b, off, none⟩ → b ≠ w.heap.size + 1 + 1 := fun b off e => by have := HFR.out _ e; dsimp only at this; omega
  refine bodyPost_ret (v := .tuple #[.agg #[.slice a p.pts.length cap, .int .i64 p.pump, .int .i64 p.on, .int .i64 p.off, .slice al p.pts.length cl], .int .i64 er]) ?_ rfl ((HP.out _ _ _).2 ⟨al, cl, rfl, hcl, ?_, ?_, ?_⟩)
  · simp [results, Tryz.results89, go_sem, F0, F1, F2, F3, F4]
  · exact ((((HRD.out.other ⟨w.heap.size + 1 + 1, 0, none⟩ _ hne).other ⟨w.heap.size + 1 + 1, 1, none⟩ _ hne).other ⟨w.heap.size + 1 + 1, 2, none⟩ _ hne).other ⟨w.heap.size + 1 + 1, 3, none⟩ _ hne).other ⟨w.heap.size + 1 + 1, 4, none⟩ _ hne
  · exact ((((HB.out.setCell (p := ⟨w.heap.size + 1 + 1, 0, none⟩) (by simp; omega) _).setCell (p := ⟨w.heap.size + 1 + 1, 1, none⟩) (by simp; omega) _).setCell (p := ⟨w.heap.size + 1 + 1, 2, none⟩) (by simp; omega) _).setCell (p := ⟨w.heap.size + 1 + 1, 3, none⟩) (by simp; omega) _).setCell (p := ⟨w.heap.size + 1 + 1, 4, none⟩) (by simp; omega) _
  · intro q hq; have := HFR.out q hq; omega

theorem openLimit_any (p : Plt) (s : OSt) (c : List (Int × Int)) (lim : Int) (a ac : Option Addr) (cap cc : Nat) (w : World) (hlen : p.pts.length ≤ 1000) (hlc : c.length ≤ maxLen) (hrc : Reads w ac (c.length * 2) (fracs c)) (hr : Reads w a (p.pts.length * 2) (fracs p.pts)) :
    Calls Tryz.prog 87 #[.agg (plC p a cap), .agg #[.int .i64 s.1, .bool s.2], .slice ac c.length cc, .int .i64 lim] w (OpsPost p a cap (opLE p s.1 c lim) w) := by
  have HO := zH (fun W (hb : Below w.heap.size w W) => openClass_any p s c a ac cap cc W hlen hlc (hrc.to hb) (hr.to hb))
  have HE : Hid (firstE [opCE p s.1 c, unl (wthn lim 0 1000) 2] = opLE p s.1 c lim) := zH rfl
  clear hr hrc
  obtain ⟨n, hn⟩ : ∃ n, c.length = n := ⟨_, rfl⟩
  rw [hn] at HO hlc ⊢
  clear hn
  unfold maxLen at hlc
  obtain ⟨s1, sr⟩ := s
  dsimp only at HO HE ⊢
  have HP : Hid (∀ w e w', OpsPost p a cap (opLE p s1 c lim) w e w' ↔ ∃ al cl, e = .returned (.tuple #[.agg (plL p a cap al cl), .int .i64 (opLE p s1 c lim)]) ∧ p.pts.length ≤ cl ∧ Reads w' al (p.pts.length * 2) (fracs p.pts) ∧ Below w.heap.size w w' ∧ ∀ q, al = some q → w.heap.size ≤ q.block) := zH (fun w e w' => Iff.rfl)
  obtain ⟨er, her⟩ : ∃ e, opLE p s1 c lim = e := ⟨_, rfl⟩
  rw [her] at HE HP ⊢
  clear her
  go_enter Tryz.func87, Tryz.ntmps87
  go_wp2_with fail
  refine (HO.out _ (bAlloc (bAlloc (bAlloc (bSelf w) _) _) _)).mono ?_
  intro e wo hpost
  obtain ⟨al, cl, rfl, hcl, hrd, hb, hfr⟩ := hpost.ex
  have K2 : Hid (Blk wo (w.heap.size + 1 + 1) #[.slice none 0 0, .int .i64 0, .int .i64 0, .int .i64 0, .slice none 0 0]) := zH ((Blk.newAt _ _ _ (by simp)).to hb)
  have HB := zH (bThen (bAlloc (bAlloc (bAlloc (bSelf w) _) _) _) hb)
  have HRD := zH hrd
  have hfr : ∀ q, al = some q → w.heap.size + 1 + 1 + 1 ≤ q.block := fun q hq => by have := hfr q hq; simp at this; omega
  have HFR := zH hfr
  clear hb hrd hpost hfr HO
  go_wp2_with fail
  obtain ⟨W, hW⟩ : ∃ W, wo.alloc (.cells #[.slice a p.pts.length cap, .int .i64 p.pump, .int .i64 p.on, .int .i64 p.off, .slice al p.pts.length cl] 145) = W := ⟨_, rfl⟩
  rw [hW]
  have K3 : Hid (Blk W wo.heap.size #[.slice a p.pts.length cap, .int .i64 p.pump, .int .i64 p.on, .int .i64 p.off, .slice al p.pts.length cl]) := by subst hW; exact zH (Blk.new _ _ _)
  replace K2 : Hid (Blk W (w.heap.size + 1 + 1) #[.slice none 0 0, .int .i64 0, .int .i64 0, .int .i64 0, .slice none 0 0]) := by subst hW; exact zH (K2.out.alloc _)
  replace HB : Hid (Below w.heap.size w W) := by subst hW; exact zH (bAlloc HB.out _)
  replace HRD : Hid (Reads W al (p.pts.length * 2) (fracs p.pts)) := by subst hW; exact zH (HRD.out.alloc _)
  clear hW
  refine wp_region_treeT 7 (by kernel_rfl) (by kernel_rfl) (fun wd hwd => ?_)
  have T := zH hwd
  clear hwd
  refine WE_yes 0 rfl (by kernel_rfl) (fun _ _ _ _ _ h => h) (by rfl) ?_; apply Exists.intro; refine ⟨fun w1 hb1 => ?_, ?_⟩; (focus (((obtain ⟨-, k3, -⟩ := K3.out.to (T.out.trans hb1)); have hb1 := zH hb1; go_simp); (try (go_bits; try go_simp)); (try (rw [if_pos (by omega)]; try go_simp)); (first | done | (with_reducible rfl) | exact rfl)))
  simp only [Act.put, zzT, zzO, zzS]
  refine WE_yes 1 rfl (by kernel_rfl) (fun _ _ _ _ _ h => h) (by rfl) ?_; apply Exists.intro; refine ⟨fun w1 hb1 => ?_, ?_⟩; (focus ((have hb1 := zH hb1; go_simp); (try (go_bits; try go_simp)); (try (rw [if_pos (by omega)]; try go_simp)); (first | done | (with_reducible rfl) | exact rfl)))
  simp only [Act.put, zzT, zzO, zzS]
  refine WE_yes 2 rfl (by kernel_rfl) (fun _ _ _ _ _ h => h) (by rfl) ?_; apply Exists.intro; refine ⟨fun w1 hb1 => ?_, ?_⟩; (focus ((have hb1 := zH hb1; go_simp); (try (go_bits; try go_simp)); (try (rw [if_pos (by omega)]; try go_simp)); (first | done | (with_reducible rfl) | exact rfl)))
  simp only [Act.put, zzT, zzO, zzS]
  refine WE_yes 3 rfl (by kernel_rfl) (fun _ _ _ _ _ h => h) (by rfl) ?_; apply Exists.intro; refine ⟨fun w1 hb1 => ?_, ?_⟩; (focus ((have hb1 := zH hb1; go_simp); (try (go_bits; try go_simp)); (try (rw [if_pos (by omega)]; try go_simp)); (first | done | ((go_at_call 128; refine (isPressure_any _ _).mono ?_; rintro e w' ⟨rfl, rfl⟩; exact ⟨rfl, rfl⟩)) | (with_reducible rfl) | exact rfl)))
  simp only [Act.put, zzT, zzO, zzS]
  refine WE_yes 4 rfl (by kernel_rfl) (fun _ _ _ _ _ h => h) (by rfl) ?_; apply Exists.intro; refine ⟨fun w1 hb1 => ?_, ?_⟩; (focus ((have hb1 := zH hb1; go_simp); (try (go_bits; try go_simp)); (try (rw [if_pos (by omega)]; try go_simp)); (first | done | ((go_at_call 80; refine (oUnless_any _ _ _).mono ?_; rintro e w' ⟨rfl, rfl⟩; exact ⟨rfl, rfl⟩)) | (with_reducible rfl) | exact rfl)))
  simp only [Act.put, zzT, zzO, zzS]
  refine WE_one 5 rfl (by decide) (by kernel_rfl) ?_
  unfold stepE
  go_wp2_with fail
  refine ⟨(Below.refl _ _).alloc T.out.size _, ?_⟩
  refine WE_one 6 rfl (by decide) (by kernel_rfl) ?_
  unfold stepE
  go_wp2_with fail
  refine (oFirst2_new _ _ _ _ (by simp)).mono ?_
  rintro e w' ⟨rfl, rfl⟩
  rw [HE.out]
  go_wp2_with fail
  refine ⟨Below.refl _ _, ?_⟩
  refine WE_tail rfl (by kernel_rfl) ?_
  simp only [List.drop_succ_cons, List.drop_zero]
  replace K2 := zH (K2.out.to T.out)
  replace HRD := zH (HRD.out.to T.out)
  replace HB := zH (bThen HB.out T.out)
  clear T 
  obtain ⟨W6, hW6⟩ : ∃ W, wd.alloc (.cells #[.int .i64 (opCE p s1 c), .int .i64 (unl (wthn lim 0 1000) 2)] 29) = W := ⟨_, rfl⟩
  rw [hW6]
  replace K2 : Hid (Blk W6 (w.heap.size + 1 + 1) #[.slice none 0 0, .int .i64 0, .int .i64 0, .int .i64 0, .slice none 0 0]) := by subst hW6; exact zH (K2.out.alloc _)
  replace HB : Hid (Below w.heap.size w W6) := by subst hW6; exact zH (bAlloc HB.out _)
  replace HRD : Hid (Reads W6 al (p.pts.length * 2) (fracs p.pts)) := by subst hW6; exact zH (HRD.out.alloc _)
  clear hW6
  obtain ⟨hs2, k2, f2⟩ := K2.out
  go_wp2_with fail
  have F := ((((K2.out.set 0 (.slice a p.pts.length cap)).set 1 (.int .i64 p.pump)).set 2 (.int .i64 p.on)).set 3 (.int .i64 p.off)).set 4 (.slice al p.pts.length cl)
  have F0 := F.2.1 0
  have F1 := F.2.1 1
  have F2 := F.2.1 2
  have F3 := F.2.1 3
  have F4 := F.2.1 4
  clear F k2 f2
  have hne : ∀ b off, al = some ⟨b, off, none⟩ → b ≠ w.heap.size + 1 + 1 := fun b off e => by have := HFR.out _ e; dsimp only at this; omega
  refine bodyPost_ret (v := .tuple #[.agg #[.slice a p.pts.length cap, .int .i64 p.pump, .int .i64 p.on, .int .i64 p.off, .slice al p.pts.length cl], .int .i64 er]) ?_ rfl ((HP.out _ _ _).2 ⟨al, cl, rfl, hcl, ?_, ?_, ?_⟩)
  · simp [results, Tryz.results87, go_sem, F0, F1, F2, F3, F4]
  · exact ((((HRD.out.other ⟨w.heap.size + 1 + 1, 0, none⟩ _ hne).other ⟨w.heap.size + 1 + 1, 1, none⟩ _ hne).other ⟨w.heap.size + 1 + 1, 2, none⟩ _ hne).other ⟨w.heap.size + 1 + 1, 3, none⟩ _ hne).other ⟨w.heap.size + 1 + 1, 4, none⟩ _ hne
  · exact ((((HB.out.setCell (p := ⟨w.heap.size + 1 + 1, 0, none⟩) (by simp; omega) _).setCell (p := ⟨w.heap.size + 1 + 1, 1, none⟩) (by simp; omega) _).setCell (p := ⟨w.heap.size + 1 + 1, 2, none⟩) (by simp; omega) _).setCell (p := ⟨w.heap.size + 1 + 1, 3, none⟩) (by simp; omega) _).setCell (p := ⟨w.heap.size + 1 + 1, 4, none⟩) (by simp; omega) _
  · intro q hq; have := HFR.out q hq; omega
end
section
open Go.RowKit

theorem less_up {l : List (Int × Int)} {v u : Int} (h : PtsOk l) (v0 : 0 ≤ v) (v1 : v ≤ capV l) (u0 : 0 ≤ u) (u1 : u ≤ capV l) : lessQ (prQ l v) (prQ l u) = decide (v < u) := by
  unfold lessQ
  by_cases hlt : v < u
  · rw [decide_eq_true hlt, decide_eq_true (prQ_up h v0 hlt u1)]
  · rw [decide_eq_false hlt]
    refine decide_eq_false fun hn => ?_
    rcases Int.lt_or_eq_of_le (show u ≤ v by omega) with h2 | h2
    · have := prQ_up h u0 h2 v1
      rw [Int.mul_comm (prQ l u).1, Int.mul_comm (prQ l v).1] at this
      have e1 := Int.mul_comm (prQ l u).1 (prQ l v).2
      have e2 := Int.mul_comm (prQ l v).1 (prQ l u).2
      omega
    · subst h2
      exact Int.lt_irrefl _ hn
theorem cmpQ_up {l : List (Int × Int)} {v u : Int} (h : PtsOk l) (v0 : 0 ≤ v) (v1 : v ≤ capV l) (u0 : 0 ≤ u) (u1 : u ≤ capV l) : cmpQ (rPr l v) (rPr l u) = (v - u).sign := by
  have d1 := (prQ_den h v0 v1).1
  have d2 := (prQ_den h u0 u1).1
  rw [rPr_eq h v0 v1, rPr_eq h u0 u1, cmp_fr (by omega) (by omega)]
  rcases Int.lt_trichotomy v u with h1 | h1 | h1
  · have := prQ_up h v0 h1 u1
    rw [Int.sign_eq_neg_one_of_neg (by omega), Int.sign_eq_neg_one_of_neg (by omega)]
  · subst h1
    rw [Int.sub_self, Int.sub_self]
  · have := prQ_up h u0 h1 v1
    rw [Int.sign_eq_one_of_pos (by omega), Int.sign_eq_one_of_pos (by omega)]
/-- One level: the lowest volume so far, and its tick. -/
def lowD (tick : Int) (s : Int × Int) (a : OSt × List Int) : Int × Int := if a.1.1 < s.2 then (tick, a.1.1) else s
def lowL (tick : Int) (s : Int × Int) (now : List (OSt × List Int)) : Int × Int := now.foldl (lowD tick) s
/-- All levels: none if some demands empty the plant. -/
def lowF : Int → (Int × Int) → List (List (OSt × List Int) × Option (List Int)) → Option (Int × Int)
  | _, s, [] => some s
  | tick, s, (now, none) :: l => lowF (tick + 1) (lowL tick s now) l
  | _, _, (_, some _) :: _ => none
theorem lowL_spec (tick : Int) : ∀ (now : List (OSt × List Int)) (s : Int × Int), (∀ a ∈ now, (lowL tick s now).2 ≤ a.1.1) ∧ (lowL tick s now).2 ≤ s.2 ∧ ((lowL tick s now).2 = s.2 ∧ lowL tick s now = s ∨ (lowL tick s now).1 = tick ∧ (lowL tick s now).2 < s.2 ∧ ∃ a ∈ now, a.1.1 = (lowL tick s now).2)
  | [], s => ⟨fun _ h => (by cases h), Int.le_refl s.2, Or.inl ⟨rfl, rfl⟩⟩
  | a :: now, s => by
    have ih := lowL_spec tick now (lowD tick s a)
    have e : lowL tick s (a :: now) = lowL tick (lowD tick s a) now := rfl
    rw [e]
    obtain ⟨h1, h2, h3⟩ := ih
    unfold lowD at *
    by_cases c : a.1.1 < s.2
    · rw [if_pos c] at *
      dsimp only at *
      refine ⟨fun b hb => ?_, by omega, .inr ?_⟩
      · rcases List.mem_cons.1 hb with rfl | hb
        · exact h2
        · exact h1 b hb
      · rcases h3 with ⟨e1, e2⟩ | ⟨e1, e2, b, hb, e3⟩
        · rw [e2]; exact ⟨rfl, c, a, List.mem_cons_self .., rfl⟩
        · exact ⟨e1, by omega, b, List.mem_cons_of_mem _ hb, e3⟩
    · rw [if_neg c] at *
      refine ⟨fun b hb => ?_, h2, ?_⟩
      · rcases List.mem_cons.1 hb with rfl | hb
        · omega
        · exact h1 b hb
      · rcases h3 with h3 | ⟨e1, e2, b, hb, e3⟩
        · exact .inl h3
        · exact .inr ⟨e1, e2, b, List.mem_cons_of_mem _ hb, e3⟩
/-- The lowest of a level that is a sorted set is its first state. -/
theorem lowL_eq {tick : Int} {now : List (OSt × List Int)} {m : List OSt} {s : Int × Int} (hm : ∀ x, x ∈ m ↔ x ∈ sts now) (hs : SrtS m) (x : OSt) (l : List OSt) (e : m = x :: l) : lowL tick s now = if x.1 < s.2 then (tick, x.1) else s := by
  obtain ⟨h1, h2, h3⟩ := lowL_spec tick now s
  subst e
  have hmin : ∀ a ∈ now, x.1 ≤ a.1.1 := fun a ha => by
    have := (hm a.1).2 (List.mem_map.2 ⟨a, ha, rfl⟩)
    rcases List.mem_cons.1 this with e | h
    · rw [e]; exact Int.le_refl _
    · have := (List.pairwise_cons.1 hs).1 _ h
      unfold ltS at this
      simp only [Bool.or_eq_true, Bool.and_eq_true, decide_eq_true_eq, beq_iff_eq] at this
      omega
  have hx : ∃ a ∈ now, a.1 = x := List.mem_map.1 ((hm x).1 (List.mem_cons_self ..))
  obtain ⟨a, ha, ea⟩ := hx
  have hxa := h1 a ha
  rw [ea] at hxa
  by_cases c : x.1 < s.2
  · rw [if_pos c]
    rcases h3 with ⟨e1, -⟩ | ⟨e1, e2, b, hb, e3⟩
    · omega
    · have := hmin b hb
      exact Prod.ext e1 (by dsimp only; omega)
  · rw [if_neg c]
    rcases h3 with ⟨-, e2⟩ | ⟨e1, e2, b, hb, e3⟩
    · exact e2
    · have := hmin b hb; omega
end
end Go.Proofs.YtbpcapcgbnbknaaGreat
