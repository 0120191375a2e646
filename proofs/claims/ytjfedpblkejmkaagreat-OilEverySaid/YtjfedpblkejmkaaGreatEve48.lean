/-
  Texts of this claim, in their build order: OL6 OL10.
-/
import Derived.Test.YtjfedpblkejmkaaGreatEve43
import Derived.Test.YtjfedpblkejmkaaGreatEve47
import Derived.Test.YtjfedpblkejmkaaGreatEve45

/-
  OilPlants.
-/
namespace Go.Proofs.YtjfedpblkejmkaaGreat
open Go.RowKit
attribute [local go_sem] Oper.semAt_some

theorem cmp_rPr {p q : Int × Int} (W : World) (hp : SmF p) (hq : SmF q) :
    Calls Tryz.prog 21 #[.agg #[.int .i64 p.1, .int .i64 p.2], .agg #[.int .i64 q.1, .int .i64 q.2]] W fun e w' => e = .returned (.int .i64 (cmpQ p q)) ∧ Below W.heap.size W w' :=
  bCmp_any p q W ⟨hp.n0, hp.n1⟩ ⟨by have := hp.d0; omega, hp.d1⟩ ⟨hq.n0, hq.n1⟩ ⟨by have := hq.d0; omega, hq.d1⟩

end Go.Proofs.YtjfedpblkejmkaaGreat

/-
  OilEvery.
-/
namespace Go.Proofs.YtjfedpblkejmkaaGreat
open Go.RowKit
attribute [local go_sem] Oper.semAt_some

set_option maxHeartbeats 12800000 in
set_option maxRecDepth 100000 in
theorem OilEvery_any (p : Plt) (s : OSt) (c : List (Int × Int)) (xs : List Int) (lim : Int) (a ac ax : Option Addr) (cap cc cx : Nat) (w : World) (hlc : c.length ≤ maxLen) (hcc : c.length ≤ cc) (hr : Reads w a (p.pts.length * 2) (fracs p.pts)) (hrc : Reads w ac (c.length * 2) (fracs c)) (hrx : Reads w ax xs.length (ints xs)) :
    Calls Tryz.prog 10 #[.agg (plC p a cap), .agg #[.int .i64 s.1, .bool s.2], .agg #[.slice ac c.length cc, .slice ax xs.length cx, .int .i64 lim]] w fun e w' => e = .returned (.bool true) ∧ Below w.heap.size w w' := by
  have HAW := Lib.hid (fun W => oAwake_any W)
  have HFW := Lib.hid (fun W => lFew_any p a cap W)
  have HCL := Lib.hid (fun W (hb : Below w.heap.size w W) => lClasses_any c ac cc W (hrc.to hb))
  have HOE := Lib.hid (fun W (h10 : p.pts.length ≤ 10) (hb : Below w.heap.size w W) => lOpenErr_any p s c a ac cap cc W (by omega) (hr.to hb) (hrc.to hb))
  have HSH := Lib.hid (fun W (h0 : (chCl c).2 = 0) (hb : Below w.heap.size w W) => lShort_any c ac cc W h0 (hrc.to hb))
  have HLM := Lib.hid (fun W => rLimitErr_any lim W)
  have HLE : Hid (opCE p s.1 c = 0 → unl (wthn lim 0 1000) 2 = 0 → opLE p s.1 c lim = 0) := Lib.hid (fun a b => firstE2.2 ⟨a, b⟩)
  have HCE : Hid (opCE p s.1 c = 0 → (chCl c).2 = 0) := Lib.hid (fun h => (firstE2.1 (show firstE [_, _] = 0 from h)).2)
  have HSL := Lib.hid (fun (h : shrtB c = true) => (show c.length ≤ 3 from by unfold shrtB at h; simp only [Bool.and_eq_true, decide_eq_true_eq] at h; exact h.2))
  have HCPY := Lib.hid (fun W (h10 : p.pts.length ≤ 10) (hb : Below w.heap.size w W) => rCopyPlant_any p a cap W (by omega) (hr.to hb))
  have HCR := Lib.hid (fun W (h3 : c.length ≤ 3) (hb : Below w.heap.size w W) => CopyRanges_any c ac cc W (by omega) (hrc.to hb))
  have HRN := Lib.hid (fun W a1 c1 a2 c2 (h10 : p.pts.length ≤ 10) (ho : c.length ≤ 3) h1 h2 => oRunOf_any p s (ownN c xs c.length) a1 a2 c1 c2 W (by omega) (by rw [ownN_len]; unfold maxLen; omega) h1 h2)
  have HRB := Lib.hid (fun W a1 c1 a2 c2 (h10 : p.pts.length ≤ 10) h1 h2 => ReachedBy_any p s c a1 a2 c1 c2 W (by omega) hlc h2 h1)
  have HLW := Lib.hid (fun W a1 c1 a2 c2 (h10 : p.pts.length ≤ 10) h1 h2 => LowestIn_any p s c a1 a2 c1 c2 W (by omega) hlc h2 h1)
  have HPC := Lib.hid (fun W a1 c1 a2 c2 (h : opLE p s.1 c lim = 0) (h10 : p.pts.length ≤ 10) h1 h2 => perm_c p s c lim a1 a2 c1 c2 W h (by omega) hlc h2 h1)
  have HPA := Lib.hid (fun W a1 c1 (x : Int) (h10 : p.pts.length ≤ 10) h1 => PressureAt_any p x a1 c1 W (by omega) h1)
  have HEV := Lib.hid (fun (h : opLE p s.1 c lim = 0) => ev_all (xs := xs) h)
  have HOK := Lib.hid (fun (h : opLE p s.1 c lim = 0) => opLE_ok h)
  have HLB := Lib.hid (fun (h : unl (wthn lim 0 1000) 2 = 0) => wthn_iff.1 ((unlZ (by decide)).1 h))
  have HRC := Lib.hid hrc
  have HRX := Lib.hid hrx
  obtain ⟨m, hm⟩ : ∃ n, p.pts.length = n := ⟨_, rfl⟩
  obtain ⟨n, hn⟩ : ∃ n, c.length = n := ⟨_, rfl⟩
  obtain ⟨l, hl⟩ : ∃ n, xs.length = n := ⟨_, rfl⟩
  obtain ⟨b1, hb1⟩ : ∃ b, clssB c = b := ⟨_, rfl⟩
  obtain ⟨b2, hb2⟩ : ∃ b, shrtB c = b := ⟨_, rfl⟩
  obtain ⟨oe, hoe⟩ : ∃ b, opCE p s.1 c = b := ⟨_, rfl⟩
  obtain ⟨le, hle⟩ : ∃ b, unl (wthn lim 0 1000) 2 = b := ⟨_, rfl⟩
  obtain ⟨oe2, hoe2⟩ : ∃ b, opLE p s.1 c lim = b := ⟨_, rfl⟩
  obtain ⟨ro, hro⟩ : ∃ b, runO p s (ownN c xs c.length) = b := ⟨_, rfl⟩
  obtain ⟨rn, hrn⟩ : ∃ b, rnR p s (ownN c xs c.length) = b := ⟨_, rfl⟩
  obtain ⟨ec, hec⟩ : ∃ b, rchE p s c = b := ⟨_, rfl⟩
  obtain ⟨oc, hoc⟩ : ∃ b, rchO p s c = b := ⟨_, rfl⟩
  obtain ⟨lo, hlo⟩ : ∃ b, lwtA p s c = b := ⟨_, rfl⟩
  obtain ⟨el, hel⟩ : ∃ b, lwtE p s c = b := ⟨_, rfl⟩
  obtain ⟨rb, hrb⟩ : ∃ b, prmB p s c lim = b := ⟨_, rfl⟩
  have HM := Lib.hid hm
  have HN := Lib.hid hn
  unfold SPost at HRN HRB
  rw [hm] at HFW HOE HCPY HRN HRB HLW HPC HPA
  rw [hro, hrn, ownN_len, hn] at HRN
  rw [hec, hoc, hn] at HRB
  rw [hlo, hel, hn] at HLW
  rw [hro, hrn, hec, hoc, hlo, hel, hrb, hn] at HEV
  rw [hn] at HCL HOE HSH HSL HCR HPC HRC hlc hcc ⊢
  rw [hl] at HRX ⊢
  rw [hb1] at HCL
  rw [hb2] at HSH HSL
  rw [hoe] at HOE HLE HCE
  rw [hle] at HLM HLE HLB
  rw [hoe2] at HLE HPC HOK HEV
  rw [hrb] at HPC
  clear hn hl hb1 hb2 hoe hle hoe2 hro hrn hec hoc hlo hel hrb hr hrc hrx
  obtain ⟨s1, sr⟩ := s
  obtain ⟨lt, lq1, lq2⟩ := lo
  unfold plC at HFW HOE HCPY HRN HRB HLW HPC HPA ⊢
  dsimp only at HFW HOE HCPY HRN HRB HLW HPC HPA HEV HOK ⊢
  rw [hm] at HFW HOE HCPY HRN HRB HLW HPC HPA ⊢
  clear hm
  go_enter Tryz.func10, Tryz.ntmps10
  go_wp2_with fail
  obtain ⟨W, hW⟩ : ∃ W, ((w.alloc (.cells #[.slice a m cap, .int .i64 p.pump, .int .i64 p.on, .int .i64 p.off] 44)).alloc (.cells #[.int .i64 s1, .bool sr] 46)).alloc (.cells #[.slice ac n cc, .slice ax l cx, .int .i64 lim] 67) = W := ⟨_, rfl⟩
  rw [hW]
  have K3 : Hid (Blk W w.heap.size #[.slice a m cap, .int .i64 p.pump, .int .i64 p.on, .int .i64 p.off]) := by subst hW; exact Lib.hid (((Blk.new _ _ _).alloc _).alloc _)
  have K4 : Hid (Blk W (w.heap.size + 1) #[.int .i64 s1, .bool sr]) := by subst hW; exact Lib.hid ((Blk.newAt _ _ _ (by simp)).alloc _)
  have K5 : Hid (Blk W (w.heap.size + 1 + 1) #[.slice ac n cc, .slice ax l cx, .int .i64 lim]) := by subst hW; exact Lib.hid (Blk.newAt _ _ _ (by simp))
  have HB : Hid (Below w.heap.size w W) := by subst hW; exact Lib.hid (bAlloc (bAlloc (bAlloc (bSelf w) _) _) _)
  clear hW
  refine (HAW.out _).mono ?_
  rintro e y1 ⟨rfl, hb⟩
  replace K3 := Lib.hid (K3.out.to hb)
  replace K4 := Lib.hid (K4.out.to hb)
  replace K5 := Lib.hid (K5.out.to hb)
  replace HB := Lib.hid (bThen HB.out hb)
  clear hb
  obtain ⟨-, k3, -⟩ := K3.out
  go_wp2_with fail
  refine (HFW.out _).mono ?_
  rintro e y2 ⟨rfl, hb⟩
  replace K3 := Lib.hid (K3.out.to hb)
  replace K4 := Lib.hid (K4.out.to hb)
  replace K5 := Lib.hid (K5.out.to hb)
  replace HB := Lib.hid (bThen HB.out hb)
  clear hb k3 HAW HFW
  by_cases h10 : m ≤ 10
  case neg =>
    rw [decide_eq_false (show ¬ ((m : Int) ≤ 10) by omega)]
    go_wp2_with fail
    go_ret
    exact ⟨rfl, HB.out⟩
  rw [decide_eq_true (show ((m : Int) ≤ 10) by omega)]
  obtain ⟨-, k5, -⟩ := K5.out
  go_wp2_with fail
  refine (HCL.out _ HB.out).mono ?_
  rintro e y3 ⟨rfl, hb⟩
  replace K3 := Lib.hid (K3.out.to hb)
  replace K4 := Lib.hid (K4.out.to hb)
  replace K5 := Lib.hid (K5.out.to hb)
  replace HB := Lib.hid (bThen HB.out hb)
  clear hb k5 HCL
  cases b1
  · go_wp2_with fail
    go_ret
    exact ⟨rfl, HB.out⟩
  obtain ⟨-, k3, -⟩ := K3.out
  obtain ⟨-, k4, -⟩ := K4.out
  obtain ⟨-, k5, -⟩ := K5.out
  go_wp2_with fail
  refine (HOE.out _ h10 HB.out).mono ?_
  rintro e y4 ⟨rfl, hb⟩
  replace K3 := Lib.hid (K3.out.to hb)
  replace K4 := Lib.hid (K4.out.to hb)
  replace K5 := Lib.hid (K5.out.to hb)
  replace HB := Lib.hid (bThen HB.out hb)
  clear hb k3 k4 k5 HOE
  by_cases h0 : oe = 0
  case neg =>
    have h0' : (oe != 0) = true := by simpa using h0
    go_wp2_with fail
    go_ret
    exact ⟨rfl, HB.out⟩
  subst h0
  have hc0 := HCE.out rfl
  obtain ⟨-, k5, -⟩ := K5.out
  go_wp2_with fail
  refine (HSH.out _ hc0 HB.out).mono ?_
  rintro e y5 ⟨rfl, hb⟩
  replace K3 := Lib.hid (K3.out.to hb)
  replace K4 := Lib.hid (K4.out.to hb)
  replace K5 := Lib.hid (K5.out.to hb)
  replace HB := Lib.hid (bThen HB.out hb)
  clear hb k5 HSH hc0 HCE
  cases b2
  · go_wp2_with fail
    go_ret
    exact ⟨rfl, HB.out⟩
  have hn3 := HSL.out rfl
  clear HSL
  obtain ⟨-, k5, -⟩ := K5.out
  by_cases hnl : l = n
  case neg =>
    go_wp2_with fail
    all_goals first | (exfalso; omega) | (go_ret; exact ⟨rfl, HB.out⟩)
  subst hnl
  go_wp2_with fail
  refine (HLM.out _).mono ?_
  rintro e w' ⟨rfl, rfl⟩
  clear HLM
  by_cases h0 : le = 0
  case neg =>
    have h0' : (le != 0) = true := by simpa using h0
    go_wp2_with fail
    go_ret
    exact ⟨rfl, HB.out⟩
  subst h0
  obtain rfl := HLE.out (by first | trivial | rfl) (by first | trivial | rfl)
  replace HLB := Lib.hid (HLB.out (by first | trivial | rfl))
  clear HLE k5
  replace HOK := Lib.hid (HOK.out rfl)
  replace HEV := Lib.hid (HEV.out rfl)
  replace HPC := Lib.hid (fun W a1 c1 a2 c2 => HPC.out W a1 c1 a2 c2 rfl h10)
  replace HRN := Lib.hid (fun W a1 c1 a2 c2 => HRN.out W a1 c1 a2 c2 h10 hn3)
  replace HRB := Lib.hid (fun W a1 c1 a2 c2 => HRB.out W a1 c1 a2 c2 h10)
  replace HLW := Lib.hid (fun W a1 c1 a2 c2 => HLW.out W a1 c1 a2 c2 h10)
  replace HPA := Lib.hid (fun W a1 c1 x => HPA.out W a1 c1 x h10)
  replace HCPY := Lib.hid (fun W => HCPY.out W h10)
  replace HCR := Lib.hid (fun W => HCR.out W hn3)
  replace HRC := Lib.hid (HRC.out.to HB.out)
  replace HRX := Lib.hid (HRX.out.to HB.out)
  go_wp2_with fail
  obtain ⟨y9, hy9⟩ : ∃ y, y = y5 := ⟨_, rfl⟩
  subst hy9
  go_loopw [7, 8] (fun s7 s8 wr => ∃ (k : Nat) (va : Option Addr) (vc : Nat), s7 = .slice va k vc ∧ s8 = .int .i64 k ∧ k ≤ l ∧ Hid (wr.ownsRow y9.heap.size 3 1 (.slice va k vc) k ((ownN c xs k).map fun z => Value.int .i64 z)) ∧ Hid (Below y9.heap.size y9 wr)) (fun _ s8 _ => l - (intOf s8).toNat)
  case atStart => exact ⟨0, none, 0, rfl, rfl, Nat.zero_le _, Lib.hid ⟨by simp [ownN], .inl ⟨rfl, rfl⟩⟩, Lib.hid (bSelf _)⟩
  case round =>
    obtain ⟨k, va, vc, rfl, rfl, hk, HO, HR0⟩ := hrel
    obtain ⟨-, k5, -⟩ := K5.out.to HR0.out
    by_cases hlt : k < l
    · obtain ⟨b, off, rfl, hb, hc⟩ := HRC.out.at (k := k * 2) (by omega)
      obtain ⟨b', off', rfl, hb', hc'⟩ := HRX.out.at (k := k) hlt
      obtain ⟨⟨lo, hi⟩, hv⟩ : ∃ v, fg c k = v := ⟨_, rfl⟩
      obtain ⟨x, hx⟩ : ∃ x, gi xs k = x := ⟨_, rfl⟩
      have C0 : Hid (y9.cell? ⟨b, off + k * 2, none⟩ = some (.int .i64 lo)) := Lib.hid (by have := hc (k * 2) (by omega); rw [fracs0, hv] at this; exact this)
      have C1 : Hid (y9.cell? ⟨b, off + k * 2 + 1, none⟩ = some (.int .i64 hi)) := Lib.hid (by have := hc (k * 2 + 1) (by omega); rw [fracs1, hv] at this; exact this)
      have X0 : Hid (y9.cell? ⟨b', off' + k, none⟩ = some (.int .i64 x)) := Lib.hid (by rw [hc' k hlt]; unfold ints; rw [hx])
      have hvb := HOK.out.1.2.2.2 k (by have := HN.out; omega)
      rw [hv] at hvb
      dsimp only at hvb
      obtain ⟨hv0, hv1, hv2⟩ := hvb
      obtain ⟨md, hmd⟩ : ∃ m, x % (hi - lo + 1) = m := ⟨_, rfl⟩
      have hm0 := Int.emod_nonneg x (show hi - lo + 1 ≠ 0 by omega)
      have hm1 := Int.emod_lt_of_pos x (show 0 < hi - lo + 1 by omega)
      rw [hmd] at hm0 hm1
      have HMD : Hid (∀ W, Calls Tryz.prog 41 #[.int .i64 x, .int .i64 (hi - lo + 1)] W fun e w' => e = .returned (.int .i64 md) ∧ W = w') := Lib.hid (fun W => by have := Mod_any x (hi - lo + 1) W (by omega) (by omega); rw [hmd] at this; exact this)
      have HOD : Hid (ownD c xs k = lo + md) := Lib.hid (by unfold ownD; rw [hv, hx, hmd])
      clear hc hc' hv hx hmd
      go_wp2_with fail
      clear k5
      refine wp_region_graph (fun u u' => Below y9.heap.size u u') ⟨fun _ => Below.refl _ _, fun h h' => h.trans h'⟩ (by kernel_rfl) (fun wi hwe hwi => ?_)
      have HO8 := Lib.hid (owns_to HO.out hwi)
      have HR8 : Hid (Below y9.heap.size y9 wi) := Lib.hid (HR0.out.trans (hwi.mono HR0.out.size))
      have hs9 : y9.heap.size ≤ wi.heap.size := HR8.out.size
      clear hwe hwi
      refine WG_yes 0 rfl (by kernel_rfl) (fun _ _ _ _ _ h => h) (by rfl) ?_; apply Exists.intro; refine ⟨fun w1 hb1 => ?_, ?_⟩; (focus ((skip; have hb1 := Lib.hid hb1; go_simp); (try (go_bits; try go_simp)); (try (rw [if_pos (by omega)]; try go_simp)); (first | done | (fail) | (with_reducible rfl) | exact rfl)))
      simp only [Act.put, List.setIfInBounds_toArray, List.set_cons_zero, List.set_cons_succ]
      refine WG_yes 1 rfl (by kernel_rfl) (fun _ _ _ _ _ h => h) (by rfl) ?_; apply Exists.intro; refine ⟨fun w1 hb1 => ?_, ?_⟩; (focus (((obtain ⟨-, k5, -⟩ := K5.out.to (HR8.out.trans hb1); have c0 := ((HR8.out.trans hb1).cell (p := ⟨b, off + k * 2, none⟩) hb).trans C0.out; have c1 := ((HR8.out.trans hb1).cell (p := ⟨b, off + k * 2 + 1, none⟩) hb).trans C1.out; have x0 := ((HR8.out.trans hb1).cell (p := ⟨b', off' + k, none⟩) hb').trans X0.out); have hb1 := Lib.hid hb1; go_simp); (try (go_bits; try go_simp)); (try (rw [if_pos (by omega)]; try go_simp)); (first | done | (fail) | (with_reducible rfl) | exact rfl)))
      simp only [Act.put, List.setIfInBounds_toArray, List.set_cons_zero, List.set_cons_succ]
      refine WG_yes 2 rfl (by kernel_rfl) (fun _ _ _ _ _ h => h) (by rfl) ?_; apply Exists.intro; refine ⟨fun w1 hb1 => ?_, ?_⟩; (focus (((obtain ⟨-, k5, -⟩ := K5.out.to (HR8.out.trans hb1); have c0 := ((HR8.out.trans hb1).cell (p := ⟨b, off + k * 2, none⟩) hb).trans C0.out; have c1 := ((HR8.out.trans hb1).cell (p := ⟨b, off + k * 2 + 1, none⟩) hb).trans C1.out; have x0 := ((HR8.out.trans hb1).cell (p := ⟨b', off' + k, none⟩) hb').trans X0.out); have hb1 := Lib.hid hb1; go_simp); (try (go_bits; try go_simp)); (try (rw [if_pos (by omega)]; try go_simp)); (first | done | (fail) | (with_reducible rfl) | exact rfl)))
      simp only [Act.put, List.setIfInBounds_toArray, List.set_cons_zero, List.set_cons_succ]
      refine WG_yes 3 rfl (by kernel_rfl) (fun _ _ _ _ _ h => h) (by rfl) ?_; apply Exists.intro; refine ⟨fun w1 hb1 => ?_, ?_⟩; (focus (((obtain ⟨-, k5, -⟩ := K5.out.to (HR8.out.trans hb1); have c0 := ((HR8.out.trans hb1).cell (p := ⟨b, off + k * 2, none⟩) hb).trans C0.out; have c1 := ((HR8.out.trans hb1).cell (p := ⟨b, off + k * 2 + 1, none⟩) hb).trans C1.out; have x0 := ((HR8.out.trans hb1).cell (p := ⟨b', off' + k, none⟩) hb').trans X0.out); have hb1 := Lib.hid hb1; go_simp); (try (go_bits; try go_simp)); (try (rw [if_pos (by omega)]; try go_simp)); (first | done | (fail) | (with_reducible rfl) | exact rfl)))
      simp only [Act.put, List.setIfInBounds_toArray, List.set_cons_zero, List.set_cons_succ]
      refine WG_yes 4 rfl (by kernel_rfl) (fun _ _ _ _ _ h => h) (by rfl) ?_; apply Exists.intro; refine ⟨fun w1 hb1 => ?_, ?_⟩; (focus (((obtain ⟨-, k5, -⟩ := K5.out.to (HR8.out.trans hb1); have c0 := ((HR8.out.trans hb1).cell (p := ⟨b, off + k * 2, none⟩) hb).trans C0.out; have c1 := ((HR8.out.trans hb1).cell (p := ⟨b, off + k * 2 + 1, none⟩) hb).trans C1.out; have x0 := ((HR8.out.trans hb1).cell (p := ⟨b', off' + k, none⟩) hb').trans X0.out); have hb1 := Lib.hid hb1; go_simp); (try (go_bits; try go_simp)); (try (rw [if_pos (by omega)]; try go_simp)); (first | done | (fail) | (with_reducible rfl) | exact rfl)))
      simp only [Act.put, List.setIfInBounds_toArray, List.set_cons_zero, List.set_cons_succ]
      refine WG_yes 5 rfl (by kernel_rfl) (fun _ _ _ _ _ h => h) (by rfl) ?_; apply Exists.intro; refine ⟨fun w1 hb1 => ?_, ?_⟩; (focus (((obtain ⟨-, k5, -⟩ := K5.out.to (HR8.out.trans hb1); have c0 := ((HR8.out.trans hb1).cell (p := ⟨b, off + k * 2, none⟩) hb).trans C0.out; have c1 := ((HR8.out.trans hb1).cell (p := ⟨b, off + k * 2 + 1, none⟩) hb).trans C1.out; have x0 := ((HR8.out.trans hb1).cell (p := ⟨b', off' + k, none⟩) hb').trans X0.out); have hb1 := Lib.hid hb1; go_simp); (try (go_bits; try go_simp)); (try (rw [if_pos (by omega)]; try go_simp)); (first | done | (fail) | (with_reducible rfl) | exact rfl)))
      simp only [Act.put, List.setIfInBounds_toArray, List.set_cons_zero, List.set_cons_succ]
      refine WG_yes 6 rfl (by kernel_rfl) (fun _ _ _ _ _ h => h) (by rfl) ?_; apply Exists.intro; refine ⟨fun w1 hb1 => ?_, ?_⟩; (focus (((obtain ⟨-, k5, -⟩ := K5.out.to (HR8.out.trans hb1); have c0 := ((HR8.out.trans hb1).cell (p := ⟨b, off + k * 2, none⟩) hb).trans C0.out; have c1 := ((HR8.out.trans hb1).cell (p := ⟨b, off + k * 2 + 1, none⟩) hb).trans C1.out; have x0 := ((HR8.out.trans hb1).cell (p := ⟨b', off' + k, none⟩) hb').trans X0.out); have hb1 := Lib.hid hb1; go_simp); (try (go_bits; try go_simp)); (try (rw [if_pos (by omega)]; try go_simp)); (first | done | (fail) | (with_reducible rfl) | exact rfl)))
      simp only [Act.put, List.setIfInBounds_toArray, List.set_cons_zero, List.set_cons_succ]
      refine WG_yes 7 rfl (by kernel_rfl) (fun _ _ _ _ _ h => h) (by rfl) ?_; apply Exists.intro; refine ⟨fun w1 hb1 => ?_, ?_⟩; (focus (((obtain ⟨-, k5, -⟩ := K5.out.to (HR8.out.trans hb1); have c0 := ((HR8.out.trans hb1).cell (p := ⟨b, off + k * 2, none⟩) hb).trans C0.out; have c1 := ((HR8.out.trans hb1).cell (p := ⟨b, off + k * 2 + 1, none⟩) hb).trans C1.out; have x0 := ((HR8.out.trans hb1).cell (p := ⟨b', off' + k, none⟩) hb').trans X0.out); have hb1 := Lib.hid hb1; go_simp); (try (go_bits; try go_simp)); (try (rw [if_pos (by omega)]; try go_simp)); (first | done | (fail) | (with_reducible rfl) | exact rfl)))
      simp only [Act.put, List.setIfInBounds_toArray, List.set_cons_zero, List.set_cons_succ]
      refine WG_yes 8 rfl (by kernel_rfl) (fun _ _ _ _ _ h => h) (by rfl) ?_; apply Exists.intro; refine ⟨fun w1 hb1 => ?_, ?_⟩; (focus (((obtain ⟨-, k5, -⟩ := K5.out.to (HR8.out.trans hb1); have c0 := ((HR8.out.trans hb1).cell (p := ⟨b, off + k * 2, none⟩) hb).trans C0.out; have c1 := ((HR8.out.trans hb1).cell (p := ⟨b, off + k * 2 + 1, none⟩) hb).trans C1.out; have x0 := ((HR8.out.trans hb1).cell (p := ⟨b', off' + k, none⟩) hb').trans X0.out); have hb1 := Lib.hid hb1; go_simp); (try (go_bits; try go_simp)); (try (rw [if_pos (by omega)]; try go_simp)); (first | done | (fail) | (with_reducible rfl) | exact rfl)))
      simp only [Act.put, List.setIfInBounds_toArray, List.set_cons_zero, List.set_cons_succ]
      refine WG_yes 9 rfl (by kernel_rfl) (fun _ _ _ _ _ h => h) (by rfl) ?_; apply Exists.intro; refine ⟨fun w1 hb1 => ?_, ?_⟩; (focus (((obtain ⟨-, k5, -⟩ := K5.out.to (HR8.out.trans hb1); have c0 := ((HR8.out.trans hb1).cell (p := ⟨b, off + k * 2, none⟩) hb).trans C0.out; have c1 := ((HR8.out.trans hb1).cell (p := ⟨b, off + k * 2 + 1, none⟩) hb).trans C1.out; have x0 := ((HR8.out.trans hb1).cell (p := ⟨b', off' + k, none⟩) hb').trans X0.out); have hb1 := Lib.hid hb1; go_simp); (try (go_bits; try go_simp)); (try (rw [if_pos (by omega)]; try go_simp)); (first | done | (fail) | (with_reducible rfl) | exact rfl)))
      simp only [Act.put, List.setIfInBounds_toArray, List.set_cons_zero, List.set_cons_succ]
      refine WG_yes 10 rfl (by kernel_rfl) (fun _ _ _ _ _ h => h) (by rfl) ?_; apply Exists.intro; refine ⟨fun w1 hb1 => ?_, ?_⟩; (focus (((obtain ⟨-, k5, -⟩ := K5.out.to (HR8.out.trans hb1); have c0 := ((HR8.out.trans hb1).cell (p := ⟨b, off + k * 2, none⟩) hb).trans C0.out; have c1 := ((HR8.out.trans hb1).cell (p := ⟨b, off + k * 2 + 1, none⟩) hb).trans C1.out; have x0 := ((HR8.out.trans hb1).cell (p := ⟨b', off' + k, none⟩) hb').trans X0.out); have hb1 := Lib.hid hb1; go_simp); (try (go_bits; try go_simp)); (try (rw [if_pos (by omega)]; try go_simp)); (first | done | (fail) | (with_reducible rfl) | exact rfl)))
      simp only [Act.put, List.setIfInBounds_toArray, List.set_cons_zero, List.set_cons_succ]
      refine WG_yes 11 rfl (by kernel_rfl) (fun _ _ _ _ _ h => h) (by rfl) ?_; apply Exists.intro; refine ⟨fun w1 hb1 => ?_, ?_⟩; (focus (((obtain ⟨-, k5, -⟩ := K5.out.to (HR8.out.trans hb1); have c0 := ((HR8.out.trans hb1).cell (p := ⟨b, off + k * 2, none⟩) hb).trans C0.out; have c1 := ((HR8.out.trans hb1).cell (p := ⟨b, off + k * 2 + 1, none⟩) hb).trans C1.out; have x0 := ((HR8.out.trans hb1).cell (p := ⟨b', off' + k, none⟩) hb').trans X0.out); have hb1 := Lib.hid hb1; go_simp); (try (go_bits; try go_simp)); (try (rw [if_pos (by omega)]; try go_simp)); (first | done | (fail) | (with_reducible rfl) | exact rfl)))
      simp only [Act.put, List.setIfInBounds_toArray, List.set_cons_zero, List.set_cons_succ]
      refine WG_yes 12 rfl (by kernel_rfl) (fun _ _ _ _ _ h => h) (by rfl) ?_; apply Exists.intro; refine ⟨fun w1 hb1 => ?_, ?_⟩; (focus (((obtain ⟨-, k5, -⟩ := K5.out.to (HR8.out.trans hb1); have c0 := ((HR8.out.trans hb1).cell (p := ⟨b, off + k * 2, none⟩) hb).trans C0.out; have c1 := ((HR8.out.trans hb1).cell (p := ⟨b, off + k * 2 + 1, none⟩) hb).trans C1.out; have x0 := ((HR8.out.trans hb1).cell (p := ⟨b', off' + k, none⟩) hb').trans X0.out); have hb1 := Lib.hid hb1; go_simp); (try (go_bits; try go_simp)); (try (rw [if_pos (by omega)]; try go_simp)); (first | done | (fail) | (with_reducible rfl) | exact rfl)))
      simp only [Act.put, List.setIfInBounds_toArray, List.set_cons_zero, List.set_cons_succ]
      refine WG_yes 13 rfl (by kernel_rfl) (fun _ _ _ _ _ h => h) (by rfl) ?_; apply Exists.intro; refine ⟨fun w1 hb1 => ?_, ?_⟩; (focus (((obtain ⟨-, k5, -⟩ := K5.out.to (HR8.out.trans hb1); have c0 := ((HR8.out.trans hb1).cell (p := ⟨b, off + k * 2, none⟩) hb).trans C0.out; have c1 := ((HR8.out.trans hb1).cell (p := ⟨b, off + k * 2 + 1, none⟩) hb).trans C1.out; have x0 := ((HR8.out.trans hb1).cell (p := ⟨b', off' + k, none⟩) hb').trans X0.out); have hb1 := Lib.hid hb1; go_simp); (try (go_bits; try go_simp)); (try (rw [if_pos (by omega)]; try go_simp)); (first | done | (fail) | (with_reducible rfl) | exact rfl)))
      simp only [Act.put, List.setIfInBounds_toArray, List.set_cons_zero, List.set_cons_succ]
      refine WG_yes 14 rfl (by kernel_rfl) (fun _ _ _ _ _ h => h) (by rfl) ?_; apply Exists.intro; refine ⟨fun w1 hb1 => ?_, ?_⟩; (focus (((obtain ⟨-, k5, -⟩ := K5.out.to (HR8.out.trans hb1); have c0 := ((HR8.out.trans hb1).cell (p := ⟨b, off + k * 2, none⟩) hb).trans C0.out; have c1 := ((HR8.out.trans hb1).cell (p := ⟨b, off + k * 2 + 1, none⟩) hb).trans C1.out; have x0 := ((HR8.out.trans hb1).cell (p := ⟨b', off' + k, none⟩) hb').trans X0.out); have hb1 := Lib.hid hb1; go_simp); (try (go_bits; try go_simp)); (try (rw [if_pos (by omega)]; try go_simp)); (first | done | (fail) | (with_reducible rfl) | exact rfl)))
      simp only [Act.put, List.setIfInBounds_toArray, List.set_cons_zero, List.set_cons_succ]
      refine WG_yes 15 rfl (by kernel_rfl) (fun _ _ _ _ _ h => h) (by rfl) ?_; apply Exists.intro; refine ⟨fun w1 hb1 => ?_, ?_⟩; (focus (((obtain ⟨-, k5, -⟩ := K5.out.to (HR8.out.trans hb1); have c0 := ((HR8.out.trans hb1).cell (p := ⟨b, off + k * 2, none⟩) hb).trans C0.out; have c1 := ((HR8.out.trans hb1).cell (p := ⟨b, off + k * 2 + 1, none⟩) hb).trans C1.out; have x0 := ((HR8.out.trans hb1).cell (p := ⟨b', off' + k, none⟩) hb').trans X0.out); have hb1 := Lib.hid hb1; go_simp); (try (go_bits; try go_simp)); (try (rw [if_pos (by omega)]; try go_simp)); (first | done | (fail) | (with_reducible rfl) | exact rfl)))
      simp only [Act.put, List.setIfInBounds_toArray, List.set_cons_zero, List.set_cons_succ]
      refine WG_yes 16 rfl (by kernel_rfl) (fun _ _ _ _ _ h => h) (by rfl) ?_; apply Exists.intro; refine ⟨fun w1 hb1 => ?_, ?_⟩; (focus (((obtain ⟨-, k5, -⟩ := K5.out.to (HR8.out.trans hb1); have c0 := ((HR8.out.trans hb1).cell (p := ⟨b, off + k * 2, none⟩) hb).trans C0.out; have c1 := ((HR8.out.trans hb1).cell (p := ⟨b, off + k * 2 + 1, none⟩) hb).trans C1.out; have x0 := ((HR8.out.trans hb1).cell (p := ⟨b', off' + k, none⟩) hb').trans X0.out); have hb1 := Lib.hid hb1; go_simp); (try (go_bits; try go_simp)); (try (rw [if_pos (by omega)]; try go_simp)); (first | done | (fail) | (with_reducible rfl) | exact rfl)))
      simp only [Act.put, List.setIfInBounds_toArray, List.set_cons_zero, List.set_cons_succ]
      refine WG_yes 17 rfl (by kernel_rfl) (fun _ _ _ _ _ h => h) (by rfl) ?_; apply Exists.intro; refine ⟨fun w1 hb1 => ?_, ?_⟩; (focus (((obtain ⟨-, k5, -⟩ := K5.out.to (HR8.out.trans hb1); have c0 := ((HR8.out.trans hb1).cell (p := ⟨b, off + k * 2, none⟩) hb).trans C0.out; have c1 := ((HR8.out.trans hb1).cell (p := ⟨b, off + k * 2 + 1, none⟩) hb).trans C1.out; have x0 := ((HR8.out.trans hb1).cell (p := ⟨b', off' + k, none⟩) hb').trans X0.out); have hb1 := Lib.hid hb1; go_simp); (try (go_bits; try go_simp)); (try (rw [if_pos (by omega)]; try go_simp)); (first | done | (fail) | (with_reducible rfl) | exact rfl)))
      simp only [Act.put, List.setIfInBounds_toArray, List.set_cons_zero, List.set_cons_succ]
      refine WG_yes 18 rfl (by kernel_rfl) (fun _ _ _ _ _ h => h) (by rfl) ?_; apply Exists.intro; refine ⟨fun w1 hb1 => ?_, ?_⟩; (focus (((obtain ⟨-, k5, -⟩ := K5.out.to (HR8.out.trans hb1); have c0 := ((HR8.out.trans hb1).cell (p := ⟨b, off + k * 2, none⟩) hb).trans C0.out; have c1 := ((HR8.out.trans hb1).cell (p := ⟨b, off + k * 2 + 1, none⟩) hb).trans C1.out; have x0 := ((HR8.out.trans hb1).cell (p := ⟨b', off' + k, none⟩) hb').trans X0.out); have hb1 := Lib.hid hb1; go_simp); (try (go_bits; try go_simp)); (try (rw [if_pos (by omega)]; try go_simp)); (first | done | (fail) | (with_reducible rfl) | exact rfl)))
      simp only [Act.put, List.setIfInBounds_toArray, List.set_cons_zero, List.set_cons_succ]
      refine WG_yes 19 rfl (by kernel_rfl) (fun _ _ _ _ _ h => h) (by rfl) ?_; apply Exists.intro; refine ⟨fun w1 hb1 => ?_, ?_⟩; (focus (((obtain ⟨-, k5, -⟩ := K5.out.to (HR8.out.trans hb1); have c0 := ((HR8.out.trans hb1).cell (p := ⟨b, off + k * 2, none⟩) hb).trans C0.out; have c1 := ((HR8.out.trans hb1).cell (p := ⟨b, off + k * 2 + 1, none⟩) hb).trans C1.out; have x0 := ((HR8.out.trans hb1).cell (p := ⟨b', off' + k, none⟩) hb').trans X0.out); have hb1 := Lib.hid hb1; go_simp); (try (go_bits; try go_simp)); (try (rw [if_pos (by omega)]; try go_simp)); (first | done | (fail) | (with_reducible rfl) | exact rfl)))
      simp only [Act.put, List.setIfInBounds_toArray, List.set_cons_zero, List.set_cons_succ]
      refine WG_yes 20 rfl (by kernel_rfl) (fun _ _ _ _ _ h => h) (by rfl) ?_; apply Exists.intro; refine ⟨fun w1 hb1 => ?_, ?_⟩; (focus (((obtain ⟨-, k5, -⟩ := K5.out.to (HR8.out.trans hb1); have c0 := ((HR8.out.trans hb1).cell (p := ⟨b, off + k * 2, none⟩) hb).trans C0.out; have c1 := ((HR8.out.trans hb1).cell (p := ⟨b, off + k * 2 + 1, none⟩) hb).trans C1.out; have x0 := ((HR8.out.trans hb1).cell (p := ⟨b', off' + k, none⟩) hb').trans X0.out); have hb1 := Lib.hid hb1; go_simp); (try (go_bits; try go_simp)); (try (rw [if_pos (by omega)]; try go_simp)); (first | done | (fail) | (with_reducible rfl) | exact rfl)))
      simp only [Act.put, List.setIfInBounds_toArray, List.set_cons_zero, List.set_cons_succ]
      refine WG_yes 21 rfl (by kernel_rfl) (fun _ _ _ _ _ h => h) (by rfl) ?_; apply Exists.intro; refine ⟨fun w1 hb1 => ?_, ?_⟩; (focus (((obtain ⟨-, k5, -⟩ := K5.out.to (HR8.out.trans hb1); have c0 := ((HR8.out.trans hb1).cell (p := ⟨b, off + k * 2, none⟩) hb).trans C0.out; have c1 := ((HR8.out.trans hb1).cell (p := ⟨b, off + k * 2 + 1, none⟩) hb).trans C1.out; have x0 := ((HR8.out.trans hb1).cell (p := ⟨b', off' + k, none⟩) hb').trans X0.out); have hb1 := Lib.hid hb1; go_simp); (try (go_bits; try go_simp)); (try (rw [if_pos (by omega)]; try go_simp)); (first | done | (fail) | (with_reducible rfl) | exact rfl)))
      simp only [Act.put, List.setIfInBounds_toArray, List.set_cons_zero, List.set_cons_succ]
      refine WG_yes 22 rfl (by kernel_rfl) (fun _ _ _ _ _ h => h) (by rfl) ?_; apply Exists.intro; refine ⟨fun w1 hb1 => ?_, ?_⟩; (focus (((obtain ⟨-, k5, -⟩ := K5.out.to (HR8.out.trans hb1); have c0 := ((HR8.out.trans hb1).cell (p := ⟨b, off + k * 2, none⟩) hb).trans C0.out; have c1 := ((HR8.out.trans hb1).cell (p := ⟨b, off + k * 2 + 1, none⟩) hb).trans C1.out; have x0 := ((HR8.out.trans hb1).cell (p := ⟨b', off' + k, none⟩) hb').trans X0.out); have hb1 := Lib.hid hb1; go_simp); (try (go_bits; try go_simp)); (try (rw [if_pos (by omega)]; try go_simp)); (first | done | (fail) | (with_reducible rfl) | exact rfl)))
      simp only [Act.put, List.setIfInBounds_toArray, List.set_cons_zero, List.set_cons_succ]
      refine WG_yes 23 rfl (by kernel_rfl) (fun _ _ _ _ _ h => h) (by rfl) ?_; apply Exists.intro; refine ⟨fun w1 hb1 => ?_, ?_⟩; (focus (((obtain ⟨-, k5, -⟩ := K5.out.to (HR8.out.trans hb1); have c0 := ((HR8.out.trans hb1).cell (p := ⟨b, off + k * 2, none⟩) hb).trans C0.out; have c1 := ((HR8.out.trans hb1).cell (p := ⟨b, off + k * 2 + 1, none⟩) hb).trans C1.out; have x0 := ((HR8.out.trans hb1).cell (p := ⟨b', off' + k, none⟩) hb').trans X0.out); have hb1 := Lib.hid hb1; go_simp); (try (go_bits; try go_simp)); (try (rw [if_pos (by omega)]; try go_simp)); (first | done | (fail) | (with_reducible rfl) | exact rfl)))
      simp only [Act.put, List.setIfInBounds_toArray, List.set_cons_zero, List.set_cons_succ]
      refine WG_yes 24 rfl (by kernel_rfl) (fun _ _ _ _ _ h => h) (by rfl) ?_; apply Exists.intro; refine ⟨fun w1 hb1 => ?_, ?_⟩; (focus ((skip; have hb1 := Lib.hid hb1; go_simp); (try (go_bits; try go_simp)); (try (rw [if_pos (by omega)]; try go_simp)); (first | done | (fail) | (with_reducible rfl) | exact rfl)))
      simp only [Act.put, List.setIfInBounds_toArray, List.set_cons_zero, List.set_cons_succ]
      refine WG_yes 25 rfl (by kernel_rfl) (fun _ _ _ _ _ h => h) (by rfl) ?_; apply Exists.intro; refine ⟨fun w1 hb1 => ?_, ?_⟩; (focus ((skip; have hb1 := Lib.hid hb1; go_simp); (try (go_bits; try go_simp)); (try (rw [if_pos (by omega)]; try go_simp)); (first | done | (fail) | (with_reducible rfl) | exact rfl)))
      simp only [Act.put, List.setIfInBounds_toArray, List.set_cons_zero, List.set_cons_succ]
      refine WG_yes 26 rfl (by kernel_rfl) (fun _ _ _ _ _ h => h) (by rfl) ?_; apply Exists.intro; refine ⟨fun w1 hb1 => ?_, ?_⟩; (focus ((skip; have hb1 := Lib.hid hb1; go_simp); (try (go_bits; try go_simp)); (try (rw [if_pos (by omega)]; try go_simp)); (first | done | ((refine (HMD.out _).mono ?_; rintro e w' ⟨rfl, rfl⟩; exact ⟨rfl, rfl⟩)) | (with_reducible rfl) | exact rfl)))
      simp only [Act.put, List.setIfInBounds_toArray, List.set_cons_zero, List.set_cons_succ]
      refine WG_yes 27 rfl (by kernel_rfl) (fun _ _ _ _ _ h => h) (by rfl) ?_; apply Exists.intro; refine ⟨fun w1 hb1 => ?_, ?_⟩; (focus ((skip; have hb1 := Lib.hid hb1; go_simp); (try (go_bits; try go_simp)); (try (rw [if_pos (by omega)]; try go_simp)); (first | done | (fail) | (with_reducible rfl) | exact rfl)))
      simp only [Act.put, List.setIfInBounds_toArray, List.set_cons_zero, List.set_cons_succ]
      obtain ⟨od, hod⟩ : ∃ o, lo + md = o := ⟨_, rfl⟩
      rw [hod] at HOD ⊢
      clear hod HMD C0 C1 X0
      refine WG_one 28 rfl (by kernel_rfl) ?_
      unfold stepG
      go_wp2_with fail
      obtain ⟨h8, hh8⟩ : ∃ u, wi.alloc (.cells #[.int .i64 od] 3) = u := ⟨_, rfl⟩
      rw [hh8]
      have HNN : Hid (Blk h8 wi.heap.size #[.int .i64 od]) := by subst hh8; exact Lib.hid (Blk.new _ _ _)
      have HNW := Lib.hid HNN.out.news
      have hb8 : Below wi.heap.size wi h8 := by subst hh8; exact bAlloc (bSelf _) _
      replace HO8 := Lib.hid (owns_to HO8.out hb8)
      have hb9 : Below y9.heap.size wi h8 := hb8.mono hs9
      replace HR8 := Lib.hid (HR8.out.trans hb9)
      refine ⟨hb9, ?_⟩
      clear hb8 hb9 hh8 HNN
      obtain ⟨T8, hT8⟩ : ∃ t, wi.heap.size = t := ⟨_, rfl⟩
      rw [hT8] at HNW ⊢
      clear hT8 hs9
      have hs9 : y9.heap.size ≤ h8.heap.size := HR8.out.size
      have hlo := Lib.hid HO8.out.lt
      refine WG_one 29 rfl (by kernel_rfl) ?_
      unfold stepG
      go_wp2_with (at_builtin; go_loud (refine wpList_app y9.heap.size rtInt rfl (.tmp 70) (.tmp 98) rfl _ k _ rfl HO8.out ⟨T8, 0, none⟩ 1 1 [.int .i64 od] rfl rfl (by simpa using HNW.out) (ones [od]) (by unfold maxLen; omega) (by omega) hs9 ?_; intro v' w8 hown' hgrow _ hwhere; obtain ⟨vb', vd', rfl⟩ := ownsRow_sl hown'; have HO9 := Lib.hid hown'; have hb9 : Below y9.heap.size h8 w8 := (Below.refl _ _).grown hgrow hs9 (fun k e => (hlo.out k e).1); clear hown' hgrow hwhere))
      have HR9 := Lib.hid (HR8.out.trans hb9)
      refine ⟨hb9, ?_⟩
      clear hs9 HNW HO8 HR8 hb9
      refine WG_yes 30 rfl (by kernel_rfl) (fun _ _ _ _ _ h => h) (by rfl) ?_; apply Exists.intro; refine ⟨fun w1 hb1 => ?_, ?_⟩; (focus ((skip; have hb1 := Lib.hid hb1; go_simp); (try (go_bits; try go_simp)); (try (rw [if_pos (by omega)]; try go_simp)); (first | done | (fail) | (with_reducible rfl) | exact rfl)))
      simp only [Act.put, List.setIfInBounds_toArray, List.set_cons_zero, List.set_cons_succ]
      refine WG_done (by kernel_rfl) ?_
      go_wp2_with fail
      go_roundw
      case rel =>
        refine ⟨k + 1, vb', vd', rfl, by go_num, by omega, Lib.hid ?_, HR9⟩
        rw [ownN_succ, HOD.out, List.map_append]
        exact HO9.out
      case measure => simp [intOf]; omega
    · obtain rfl : k = l := by omega
      replace K3 := Lib.hid (K3.out.to HR0.out)
      replace K4 := Lib.hid (K4.out.to HR0.out)
      replace K5 := Lib.hid (K5.out.to HR0.out)
      replace HB := Lib.hid (bThen HB.out HR0.out)
      obtain ⟨a', cap', e, hcp2, hrd2, hfr2⟩ := Reads.of_row (f := ints (ownN c xs k)) HO.out (fun i hi => by
        rw [List.getElem?_map, List.getElem?_eq_getElem (by rw [ownN_len]; omega)]
        unfold ints
        rw [gi_lt (by rw [ownN_len]; omega)]
        rfl)
      cases e
      rw [Nat.mul_one] at hrd2
      have HDM := Lib.hid hrd2
      clear hcp2 hrd2 hfr2 HO
      have HCI := Lib.hid (fun W h => CopyInts_any (ownN c xs k) va vc W (by rw [ownN_len]; omega) h)
      rw [ownN_len] at HCI
      obtain ⟨y6, hy6⟩ : ∃ y, y = wr := ⟨_, rfl⟩
      subst hy6
      clear HR0 HRC HRX
      go_wp2_with fail
      refine wp_region_tree (by kernel_rfl) (fun wd hwd => ?_)
      have T := Lib.hid hwd
      clear hwd
      refine WT_yes 0 rfl (by kernel_rfl) (fun _ _ _ _ _ h => h) (by rfl) ?_; apply Exists.intro; refine ⟨fun w1 hb1 => ?_, ?_⟩; (focus (((obtain ⟨-, k3, -⟩ := K3.out.to (T.out.trans hb1)); have hb1 := Lib.hid hb1; go_simp); (try (go_bits; try go_simp)); (try (rw [if_pos (by omega)]; try go_simp)); (first | done | (fail) | (with_reducible rfl) | exact rfl)))
      simp only [Act.put, List.setIfInBounds_toArray, List.set_cons_zero, List.set_cons_succ]
      refine WT_yes 2 rfl (by kernel_rfl) (fun _ _ _ _ _ h => h) (by rfl) ?_; apply Exists.intro; refine ⟨fun w1 hb1 => ?_, ?_⟩; (focus (((obtain ⟨-, k4, -⟩ := K4.out.to (T.out.trans hb1)); have hb1 := Lib.hid hb1; go_simp); (try (go_bits; try go_simp)); (try (rw [if_pos (by omega)]; try go_simp)); (first | done | (fail) | (with_reducible rfl) | exact rfl)))
      simp only [Act.put, List.setIfInBounds_toArray, List.set_cons_zero, List.set_cons_succ]
      refine WT_yes 3 rfl (by kernel_rfl) (fun _ _ _ _ _ h => h) (by rfl) ?_; apply Exists.intro; refine ⟨fun w1 hb1 => ?_, ?_⟩; (focus ((skip; have hb1 := Lib.hid hb1; go_simp); (try (go_bits; try go_simp)); (try (rw [if_pos (by omega)]; try go_simp)); (first | done | (fail) | (with_reducible rfl) | exact rfl)))
      simp only [Act.put, List.setIfInBounds_toArray, List.set_cons_zero, List.set_cons_succ]
      refine WT_one 1 rfl (by kernel_rfl) ?_
      unfold stepT
      go_wp2_with fail
      refine (HCPY.out _ (bThen HB.out T.out)).mono ?_
      rintro e g1 ⟨a1, c1, rfl, -, hr1, hb, -⟩
      have HR1 := Lib.hid hr1
      clear hr1
      unfold plC
      rw [HM.out] at HR1 ⊢
      have hbd := Lib.hid (hb.mono T.out.size)
      replace T := Lib.hid (bThen T.out hb)
      clear hb
      go_wp2_with fail
      refine ⟨hbd.out, ?_⟩
      clear hbd
      refine WT_one 4 rfl (by kernel_rfl) ?_
      unfold stepT
      go_wp2_with fail
      refine (HCI.out _ (HDM.out.to T.out)).mono ?_
      rintro e g2 ⟨a2, c2, rfl, -, hr2, hb, -⟩
      have HR2 := Lib.hid hr2
      clear hr2
      replace HR1 := Lib.hid (HR1.out.to hb)
      have hbd := Lib.hid (hb.mono T.out.size)
      replace T := Lib.hid (bThen T.out hb)
      clear hb
      go_wp2_with fail
      refine ⟨hbd.out, ?_⟩
      clear hbd
      refine WT_one 5 rfl (by kernel_rfl) ?_
      unfold stepT
      go_wp2_with fail
      refine (HRN.out _ _ _ _ _ HR1.out HR2.out).mono ?_
      rintro e g3 ⟨aR, cR, rfl, hcR, hrR, hb, -⟩
      have HRR := Lib.hid hrR
      clear hrR HR1 HR2
      have hbd := Lib.hid (hb.mono T.out.size)
      replace T := Lib.hid (bThen T.out hb)
      clear hb
      go_wp2_with fail
      refine ⟨hbd.out, ?_⟩
      clear hbd
      refine WT_yes 6 rfl (by kernel_rfl) (fun _ _ _ _ _ h => h) (by rfl) ?_; apply Exists.intro; refine ⟨fun w1 hb1 => ?_, ?_⟩; (focus ((skip; have hb1 := Lib.hid hb1; go_simp); (try (go_bits; try go_simp)); (try (rw [if_pos (by omega)]; try go_simp)); (first | done | (fail) | (with_reducible rfl) | exact rfl)))
      simp only [Act.put, List.setIfInBounds_toArray, List.set_cons_zero, List.set_cons_succ]
      refine WT_yes 7 rfl (by kernel_rfl) (fun _ _ _ _ _ h => h) (by rfl) ?_; apply Exists.intro; refine ⟨fun w1 hb1 => ?_, ?_⟩; (focus ((skip; have hb1 := Lib.hid hb1; go_simp); (try (go_bits; try go_simp)); (try (rw [if_pos (by omega)]; try go_simp)); (first | done | (fail) | (with_reducible rfl) | exact rfl)))
      simp only [Act.put, List.setIfInBounds_toArray, List.set_cons_zero, List.set_cons_succ]
      refine WT_yes 8 rfl (by kernel_rfl) (fun _ _ _ _ _ h => h) (by rfl) ?_; apply Exists.intro; refine ⟨fun w1 hb1 => ?_, ?_⟩; (focus ((skip; have hb1 := Lib.hid hb1; go_simp); (try (go_bits; try go_simp)); (try (rw [if_pos (by omega)]; try go_simp)); (first | done | (fail) | (with_reducible rfl) | exact rfl)))
      simp only [Act.put, List.setIfInBounds_toArray, List.set_cons_zero, List.set_cons_succ]
      refine WT_yes 9 rfl (by kernel_rfl) (fun _ _ _ _ _ h => h) (by rfl) ?_; apply Exists.intro; refine ⟨fun w1 hb1 => ?_, ?_⟩; (focus ((skip; have hb1 := Lib.hid hb1; go_simp); (try (go_bits; try go_simp)); (try (rw [if_pos (by omega)]; try go_simp)); (first | done | (fail) | (with_reducible rfl) | exact rfl)))
      simp only [Act.put, List.setIfInBounds_toArray, List.set_cons_zero, List.set_cons_succ]
      refine WT_yes 10 rfl (by kernel_rfl) (fun _ _ _ _ _ h => h) (by rfl) ?_; apply Exists.intro; refine ⟨fun w1 hb1 => ?_, ?_⟩; (focus ((skip; have hb1 := Lib.hid hb1; go_simp); (try (go_bits; try go_simp)); (try (rw [if_pos (by omega)]; try go_simp)); (first | done | (fail) | (with_reducible rfl) | exact rfl)))
      simp only [Act.put, List.setIfInBounds_toArray, List.set_cons_zero, List.set_cons_succ]
      refine WT_done (by kernel_rfl) ?_
      replace HB := Lib.hid (bThen HB.out T.out)
      replace K3 := Lib.hid (K3.out.to T.out)
      replace K4 := Lib.hid (K4.out.to T.out)
      replace K5 := Lib.hid (K5.out.to T.out)
      clear T
      clear HDM HCI HRN
      go_wp2_with fail
      refine wp_region_tree (by kernel_rfl) (fun wd hwd => ?_)
      have T := Lib.hid hwd
      clear hwd
      refine WT_yes 0 rfl (by kernel_rfl) (fun _ _ _ _ _ h => h) (by rfl) ?_; apply Exists.intro; refine ⟨fun w1 hb1 => ?_, ?_⟩; (focus (((obtain ⟨-, k3, -⟩ := K3.out.to (T.out.trans hb1)); have hb1 := Lib.hid hb1; go_simp); (try (go_bits; try go_simp)); (try (rw [if_pos (by omega)]; try go_simp)); (first | done | (fail) | (with_reducible rfl) | exact rfl)))
      simp only [Act.put, List.setIfInBounds_toArray, List.set_cons_zero, List.set_cons_succ]
      refine WT_yes 2 rfl (by kernel_rfl) (fun _ _ _ _ _ h => h) (by rfl) ?_; apply Exists.intro; refine ⟨fun w1 hb1 => ?_, ?_⟩; (focus (((obtain ⟨-, k4, -⟩ := K4.out.to (T.out.trans hb1)); have hb1 := Lib.hid hb1; go_simp); (try (go_bits; try go_simp)); (try (rw [if_pos (by omega)]; try go_simp)); (first | done | (fail) | (with_reducible rfl) | exact rfl)))
      simp only [Act.put, List.setIfInBounds_toArray, List.set_cons_zero, List.set_cons_succ]
      refine WT_yes 3 rfl (by kernel_rfl) (fun _ _ _ _ _ h => h) (by rfl) ?_; apply Exists.intro; refine ⟨fun w1 hb1 => ?_, ?_⟩; (focus (((obtain ⟨-, k5, -⟩ := K5.out.to (T.out.trans hb1)); have hb1 := Lib.hid hb1; go_simp); (try (go_bits; try go_simp)); (try (rw [if_pos (by omega)]; try go_simp)); (first | done | (fail) | (with_reducible rfl) | exact rfl)))
      simp only [Act.put, List.setIfInBounds_toArray, List.set_cons_zero, List.set_cons_succ]
      refine WT_yes 4 rfl (by kernel_rfl) (fun _ _ _ _ _ h => h) (by rfl) ?_; apply Exists.intro; refine ⟨fun w1 hb1 => ?_, ?_⟩; (focus (((obtain ⟨-, k5, -⟩ := K5.out.to (T.out.trans hb1)); have hb1 := Lib.hid hb1; go_simp); (try (go_bits; try go_simp)); (try (rw [if_pos (by omega)]; try go_simp)); (first | done | (fail) | (with_reducible rfl) | exact rfl)))
      simp only [Act.put, List.setIfInBounds_toArray, List.set_cons_zero, List.set_cons_succ]
      refine WT_one 1 rfl (by kernel_rfl) ?_
      unfold stepT
      go_wp2_with fail
      refine (HCPY.out _ (bThen HB.out T.out)).mono ?_
      rintro e g4 ⟨a1, c1, rfl, -, hr1, hb, -⟩
      have HR1 := Lib.hid hr1
      clear hr1
      unfold plC
      rw [HM.out] at HR1 ⊢
      have hbd := Lib.hid (hb.mono T.out.size)
      replace T := Lib.hid (bThen T.out hb)
      clear hb
      go_wp2_with fail
      refine ⟨hbd.out, ?_⟩
      clear hbd
      refine WT_one 5 rfl (by kernel_rfl) ?_
      unfold stepT
      go_wp2_with fail
      refine (HCR.out _ (bThen HB.out T.out)).mono ?_
      rintro e g5 ⟨a2, c2, rfl, -, hr2, hb, -⟩
      have HR2 := Lib.hid hr2
      clear hr2
      replace HR1 := Lib.hid (HR1.out.to hb)
      have hbd := Lib.hid (hb.mono T.out.size)
      replace T := Lib.hid (bThen T.out hb)
      clear hb
      go_wp2_with fail
      refine ⟨hbd.out, ?_⟩
      clear hbd
      refine WT_one 6 rfl (by kernel_rfl) ?_
      unfold stepT
      go_wp2_with fail
      refine (HRB.out _ _ _ _ _ HR1.out HR2.out).mono ?_
      rintro e g6 ⟨aL, cL, rfl, hcL, hrL, hb, -⟩
      have HRL := Lib.hid hrL
      clear hrL HR1 HR2
      have hbd := Lib.hid (hb.mono T.out.size)
      replace T := Lib.hid (bThen T.out hb)
      clear hb
      go_wp2_with fail
      refine ⟨hbd.out, ?_⟩
      clear hbd
      refine WT_yes 7 rfl (by kernel_rfl) (fun _ _ _ _ _ h => h) (by rfl) ?_; apply Exists.intro; refine ⟨fun w1 hb1 => ?_, ?_⟩; (focus ((skip; have hb1 := Lib.hid hb1; go_simp); (try (go_bits; try go_simp)); (try (rw [if_pos (by omega)]; try go_simp)); (first | done | (fail) | (with_reducible rfl) | exact rfl)))
      simp only [Act.put, List.setIfInBounds_toArray, List.set_cons_zero, List.set_cons_succ]
      refine WT_yes 8 rfl (by kernel_rfl) (fun _ _ _ _ _ h => h) (by rfl) ?_; apply Exists.intro; refine ⟨fun w1 hb1 => ?_, ?_⟩; (focus ((skip; have hb1 := Lib.hid hb1; go_simp); (try (go_bits; try go_simp)); (try (rw [if_pos (by omega)]; try go_simp)); (first | done | (fail) | (with_reducible rfl) | exact rfl)))
      simp only [Act.put, List.setIfInBounds_toArray, List.set_cons_zero, List.set_cons_succ]
      refine WT_yes 9 rfl (by kernel_rfl) (fun _ _ _ _ _ h => h) (by rfl) ?_; apply Exists.intro; refine ⟨fun w1 hb1 => ?_, ?_⟩; (focus ((skip; have hb1 := Lib.hid hb1; go_simp); (try (go_bits; try go_simp)); (try (rw [if_pos (by omega)]; try go_simp)); (first | done | (fail) | (with_reducible rfl) | exact rfl)))
      simp only [Act.put, List.setIfInBounds_toArray, List.set_cons_zero, List.set_cons_succ]
      refine WT_yes 10 rfl (by kernel_rfl) (fun _ _ _ _ _ h => h) (by rfl) ?_; apply Exists.intro; refine ⟨fun w1 hb1 => ?_, ?_⟩; (focus ((skip; have hb1 := Lib.hid hb1; go_simp); (try (go_bits; try go_simp)); (try (rw [if_pos (by omega)]; try go_simp)); (first | done | (fail) | (with_reducible rfl) | exact rfl)))
      simp only [Act.put, List.setIfInBounds_toArray, List.set_cons_zero, List.set_cons_succ]
      refine WT_yes 11 rfl (by kernel_rfl) (fun _ _ _ _ _ h => h) (by rfl) ?_; apply Exists.intro; refine ⟨fun w1 hb1 => ?_, ?_⟩; (focus ((skip; have hb1 := Lib.hid hb1; go_simp); (try (go_bits; try go_simp)); (try (rw [if_pos (by omega)]; try go_simp)); (first | done | (fail) | (with_reducible rfl) | exact rfl)))
      simp only [Act.put, List.setIfInBounds_toArray, List.set_cons_zero, List.set_cons_succ]
      refine WT_done (by kernel_rfl) ?_
      replace HB := Lib.hid (bThen HB.out T.out)
      replace K3 := Lib.hid (K3.out.to T.out)
      replace K4 := Lib.hid (K4.out.to T.out)
      replace K5 := Lib.hid (K5.out.to T.out)
      replace HRR := Lib.hid (HRR.out.to T.out)
      clear T
      clear HRB
      obtain ⟨z1, hz1⟩ : ∃ z, z = g6 := ⟨_, rfl⟩
      subst hz1
      go_upto_region 12 with (fail)
      go_cut [13, 14, 15] from 119 to 129 (fun s13 s14 s15 wc => ∃ B, s13 = .int .i64 lt ∧ s14 = .pointer (some ⟨B, 0, none⟩) ∧ s15 = .int .i64 el ∧ Hid (Blk wc B #[.int .i64 lq1, .int .i64 lq2]) ∧ Hid (Below z1.heap.size z1 wc))
      case first =>
        refine wp_region_tree (by kernel_rfl) (fun wd hwd => ?_)
        have T := Lib.hid hwd
        clear hwd
        refine WT_yes 0 rfl (by kernel_rfl) (fun _ _ _ _ _ h => h) (by rfl) ?_; apply Exists.intro; refine ⟨fun w1 hb1 => ?_, ?_⟩; (focus (((obtain ⟨-, k3, -⟩ := K3.out.to (T.out.trans hb1)); have hb1 := Lib.hid hb1; go_simp); (try (go_bits; try go_simp)); (try (rw [if_pos (by omega)]; try go_simp)); (first | done | (fail) | (with_reducible rfl) | exact rfl)))
        simp only [Act.put, List.setIfInBounds_toArray, List.set_cons_zero, List.set_cons_succ]
        refine WT_yes 2 rfl (by kernel_rfl) (fun _ _ _ _ _ h => h) (by rfl) ?_; apply Exists.intro; refine ⟨fun w1 hb1 => ?_, ?_⟩; (focus (((obtain ⟨-, k4, -⟩ := K4.out.to (T.out.trans hb1)); have hb1 := Lib.hid hb1; go_simp); (try (go_bits; try go_simp)); (try (rw [if_pos (by omega)]; try go_simp)); (first | done | (fail) | (with_reducible rfl) | exact rfl)))
        simp only [Act.put, List.setIfInBounds_toArray, List.set_cons_zero, List.set_cons_succ]
        refine WT_yes 3 rfl (by kernel_rfl) (fun _ _ _ _ _ h => h) (by rfl) ?_; apply Exists.intro; refine ⟨fun w1 hb1 => ?_, ?_⟩; (focus (((obtain ⟨-, k5, -⟩ := K5.out.to (T.out.trans hb1)); have hb1 := Lib.hid hb1; go_simp); (try (go_bits; try go_simp)); (try (rw [if_pos (by omega)]; try go_simp)); (first | done | (fail) | (with_reducible rfl) | exact rfl)))
        simp only [Act.put, List.setIfInBounds_toArray, List.set_cons_zero, List.set_cons_succ]
        refine WT_yes 4 rfl (by kernel_rfl) (fun _ _ _ _ _ h => h) (by rfl) ?_; apply Exists.intro; refine ⟨fun w1 hb1 => ?_, ?_⟩; (focus (((obtain ⟨-, k5, -⟩ := K5.out.to (T.out.trans hb1)); have hb1 := Lib.hid hb1; go_simp); (try (go_bits; try go_simp)); (try (rw [if_pos (by omega)]; try go_simp)); (first | done | (fail) | (with_reducible rfl) | exact rfl)))
        simp only [Act.put, List.setIfInBounds_toArray, List.set_cons_zero, List.set_cons_succ]
        refine WT_two 1 11 rfl rfl (by kernel_rfl) ?_ ?_
        · unfold stepT
          go_wp2_with fail
          refine (HCPY.out _ (bThen HB.out T.out)).mono ?_
          rintro e u1 ⟨a1, c1, rfl, -, hr1, hb, -⟩
          have HR1 := Lib.hid hr1
          clear hr1
          unfold plC
          rw [HM.out] at HR1 ⊢
          have hbd := Lib.hid (hb.mono T.out.size)
          replace T := Lib.hid (bThen T.out hb)
          clear hb
          go_wp2_with fail
          refine ⟨hbd.out, ?_⟩
          clear hbd
          refine WT_two 5 11 rfl rfl (by kernel_rfl) ?_ ?_
          · unfold stepT
            go_wp2_with fail
            refine (HCR.out _ (bThen HB.out T.out)).mono ?_
            rintro e u2 ⟨a2, c2, rfl, -, hr2, hb, -⟩
            replace HR1 := Lib.hid (HR1.out.to hb)
            have HR2 := Lib.hid hr2
            clear hr2
            have hbd := Lib.hid (hb.mono T.out.size)
            replace T := Lib.hid (bThen T.out hb)
            clear hb
            go_wp2_with fail
            refine ⟨hbd.out, ?_⟩
            clear hbd
            refine WT_two 6 11 rfl rfl (by kernel_rfl) ?_ ?_
            · unfold stepT
              go_wp2_with fail
              refine (HLW.out _ _ _ _ _ HR1.out HR2.out).mono ?_
              rintro e u3 ⟨rfl, hb⟩
              replace HR1 := Lib.hid (HR1.out.to hb)
              replace HR2 := Lib.hid (HR2.out.to hb)
              have hbd := Lib.hid (hb.mono T.out.size)
              replace T := Lib.hid (bThen T.out hb)
              clear hb
              go_wp2_with fail
              refine ⟨hbd.out, ?_⟩
              clear hbd
              refine WT_yes 7 rfl (by kernel_rfl) (fun _ _ _ _ _ h => h) (by rfl) ?_; apply Exists.intro; refine ⟨fun w1 hb1 => ?_, ?_⟩; (focus ((skip; have hb1 := Lib.hid hb1; go_simp); (try (go_bits; try go_simp)); (try (rw [if_pos (by omega)]; try go_simp)); (first | done | (fail) | (with_reducible rfl) | exact rfl)))
              simp only [Act.put, List.setIfInBounds_toArray, List.set_cons_zero, List.set_cons_succ]
              refine WT_yes 8 rfl (by kernel_rfl) (fun _ _ _ _ _ h => h) (by rfl) ?_; apply Exists.intro; refine ⟨fun w1 hb1 => ?_, ?_⟩; (focus ((skip; have hb1 := Lib.hid hb1; go_simp); (try (go_bits; try go_simp)); (try (rw [if_pos (by omega)]; try go_simp)); (first | done | (fail) | (with_reducible rfl) | exact rfl)))
              simp only [Act.put, List.setIfInBounds_toArray, List.set_cons_zero, List.set_cons_succ]
              refine WT_yes 9 rfl (by kernel_rfl) (fun _ _ _ _ _ h => h) (by rfl) ?_; apply Exists.intro; refine ⟨fun w1 hb1 => ?_, ?_⟩; (focus ((skip; have hb1 := Lib.hid hb1; go_simp); (try (go_bits; try go_simp)); (try (rw [if_pos (by omega)]; try go_simp)); (first | done | (fail) | (with_reducible rfl) | exact rfl)))
              simp only [Act.put, List.setIfInBounds_toArray, List.set_cons_zero, List.set_cons_succ]
              refine WT_yes 10 rfl (by kernel_rfl) (fun _ _ _ _ _ h => h) (by rfl) ?_; apply Exists.intro; refine ⟨fun w1 hb1 => ?_, ?_⟩; (focus ((skip; have hb1 := Lib.hid hb1; go_simp); (try (go_bits; try go_simp)); (try (rw [if_pos (by omega)]; try go_simp)); (first | done | (fail) | (with_reducible rfl) | exact rfl)))
              simp only [Act.put, List.setIfInBounds_toArray, List.set_cons_zero, List.set_cons_succ]
              refine WT_one 11 rfl (by kernel_rfl) ?_
              unfold stepT
              go_wp2_with fail
              obtain ⟨u4, hwA⟩ : ∃ wA, u3.alloc (.cells #[.int .i64 0, .int .i64 0] 28) = wA := ⟨_, rfl⟩
              rw [hwA]
              have hb : Below u3.heap.size u3 u4 := by subst hwA; exact bAlloc (bSelf _) _
              replace HR1 := Lib.hid (HR1.out.to hb)
              replace HR2 := Lib.hid (HR2.out.to hb)
              have KBN : Hid (Blk u4 u3.heap.size #[.int .i64 0, .int .i64 0]) := by subst hwA; exact Blk.new _ _ _
              clear hwA
              have BNN : Hid (z1.heap.size ≤ u3.heap.size) := Lib.hid T.out.size
              obtain ⟨BN, hBN⟩ : ∃ N, u3.heap.size = N := ⟨_, rfl⟩
              have hbd := Lib.hid (hb.mono T.out.size)
              replace T := Lib.hid (bThen T.out hb)
              clear hb
              rw [hBN] at KBN BNN  ⊢
              clear hBN
              refine ⟨hbd.out, ?_⟩
              clear hbd
              refine WT_yes 12 rfl (by kernel_rfl) (fun _ _ _ _ _ h => h) (by rfl) ?_; apply Exists.intro; refine ⟨fun w1 hb1 => ?_, ?_⟩; (focus ((skip; have hb1 := Lib.hid hb1; go_simp); (try (go_bits; try go_simp)); (try (rw [if_pos (by omega)]; try go_simp)); (first | done | (fail) | (with_reducible rfl) | exact rfl)))
              simp only [Act.put, List.setIfInBounds_toArray, List.set_cons_zero, List.set_cons_succ]
              refine WT_one 13 rfl (by kernel_rfl) ?_
              unfold stepT
              obtain ⟨-, kx, fx⟩ := KBN.out
              go_wp2_with fail
              clear kx fx
              obtain ⟨u5, hu⟩ : ∃ u, (u4.setCell ⟨BN, 0, none⟩ (.int .i64 lq1)).setCell ⟨BN, 1, none⟩ (.int .i64 lq2) = u := ⟨_, rfl⟩
              have hb : Below z1.heap.size u4 u5 := by rw [← hu]; exact ((Below.refl _ _).setCell (p := ⟨BN, 0, none⟩) BNN.out _).setCell (p := ⟨BN, 1, none⟩) BNN.out _
              replace KBN := Lib.hid ((KBN.out.set 0 (.int .i64 lq1)).set 1 (.int .i64 lq2))
              rw [hu] at KBN ⊢
              clear hu
              replace T := Lib.hid (T.out.trans hb)
              refine ⟨hb, ?_⟩
              clear hb
              refine WT_yes 14 rfl (by kernel_rfl) (fun _ _ _ _ _ h => h) (by rfl) ?_; apply Exists.intro; refine ⟨fun w1 hb1 => ?_, ?_⟩; (focus ((skip; have hb1 := Lib.hid hb1; go_simp); (try (go_bits; try go_simp)); (try (rw [if_pos (by omega)]; try go_simp)); (first | done | (fail) | (with_reducible rfl) | exact rfl)))
              simp only [Act.put, List.setIfInBounds_toArray, List.set_cons_zero, List.set_cons_succ]
              refine WT_done (by kernel_rfl) ?_
              go_wp2_with fail
              go_meet
              case rel => exact ⟨BN, rfl, rfl, rfl, KBN, T⟩
            · unfold stepT
              go_wp2_with fail
              obtain ⟨u3, hwA⟩ : ∃ wA, u2.alloc (.cells #[.int .i64 0, .int .i64 0] 28) = wA := ⟨_, rfl⟩
              rw [hwA]
              have hb : Below u2.heap.size u2 u3 := by subst hwA; exact bAlloc (bSelf _) _
              replace HR1 := Lib.hid (HR1.out.to hb)
              replace HR2 := Lib.hid (HR2.out.to hb)
              have KBN : Hid (Blk u3 u2.heap.size #[.int .i64 0, .int .i64 0]) := by subst hwA; exact Blk.new _ _ _
              clear hwA
              have BNN : Hid (z1.heap.size ≤ u2.heap.size) := Lib.hid T.out.size
              obtain ⟨BN, hBN⟩ : ∃ N, u2.heap.size = N := ⟨_, rfl⟩
              have hbd := Lib.hid (hb.mono T.out.size)
              replace T := Lib.hid (bThen T.out hb)
              clear hb
              rw [hBN] at KBN BNN  ⊢
              clear hBN
              refine ⟨hbd.out, ?_⟩
              clear hbd
              refine WT_one 6 rfl (by kernel_rfl) ?_
              unfold stepT
              go_wp2_with fail
              refine (HLW.out _ _ _ _ _ HR1.out HR2.out).mono ?_
              rintro e u4 ⟨rfl, hb⟩
              replace KBN := Lib.hid (KBN.out.to hb)
              replace HR1 := Lib.hid (HR1.out.to hb)
              replace HR2 := Lib.hid (HR2.out.to hb)
              have hbd := Lib.hid (hb.mono T.out.size)
              replace T := Lib.hid (bThen T.out hb)
              clear hb
              go_wp2_with fail
              refine ⟨hbd.out, ?_⟩
              clear hbd
              refine WT_yes 7 rfl (by kernel_rfl) (fun _ _ _ _ _ h => h) (by rfl) ?_; apply Exists.intro; refine ⟨fun w1 hb1 => ?_, ?_⟩; (focus ((skip; have hb1 := Lib.hid hb1; go_simp); (try (go_bits; try go_simp)); (try (rw [if_pos (by omega)]; try go_simp)); (first | done | (fail) | (with_reducible rfl) | exact rfl)))
              simp only [Act.put, List.setIfInBounds_toArray, List.set_cons_zero, List.set_cons_succ]
              refine WT_yes 8 rfl (by kernel_rfl) (fun _ _ _ _ _ h => h) (by rfl) ?_; apply Exists.intro; refine ⟨fun w1 hb1 => ?_, ?_⟩; (focus ((skip; have hb1 := Lib.hid hb1; go_simp); (try (go_bits; try go_simp)); (try (rw [if_pos (by omega)]; try go_simp)); (first | done | (fail) | (with_reducible rfl) | exact rfl)))
              simp only [Act.put, List.setIfInBounds_toArray, List.set_cons_zero, List.set_cons_succ]
              refine WT_yes 9 rfl (by kernel_rfl) (fun _ _ _ _ _ h => h) (by rfl) ?_; apply Exists.intro; refine ⟨fun w1 hb1 => ?_, ?_⟩; (focus ((skip; have hb1 := Lib.hid hb1; go_simp); (try (go_bits; try go_simp)); (try (rw [if_pos (by omega)]; try go_simp)); (first | done | (fail) | (with_reducible rfl) | exact rfl)))
              simp only [Act.put, List.setIfInBounds_toArray, List.set_cons_zero, List.set_cons_succ]
              refine WT_yes 10 rfl (by kernel_rfl) (fun _ _ _ _ _ h => h) (by rfl) ?_; apply Exists.intro; refine ⟨fun w1 hb1 => ?_, ?_⟩; (focus ((skip; have hb1 := Lib.hid hb1; go_simp); (try (go_bits; try go_simp)); (try (rw [if_pos (by omega)]; try go_simp)); (first | done | (fail) | (with_reducible rfl) | exact rfl)))
              simp only [Act.put, List.setIfInBounds_toArray, List.set_cons_zero, List.set_cons_succ]
              refine WT_yes 12 rfl (by kernel_rfl) (fun _ _ _ _ _ h => h) (by rfl) ?_; apply Exists.intro; refine ⟨fun w1 hb1 => ?_, ?_⟩; (focus ((skip; have hb1 := Lib.hid hb1; go_simp); (try (go_bits; try go_simp)); (try (rw [if_pos (by omega)]; try go_simp)); (first | done | (fail) | (with_reducible rfl) | exact rfl)))
              simp only [Act.put, List.setIfInBounds_toArray, List.set_cons_zero, List.set_cons_succ]
              refine WT_one 13 rfl (by kernel_rfl) ?_
              unfold stepT
              obtain ⟨-, kx, fx⟩ := KBN.out
              go_wp2_with fail
              clear kx fx
              obtain ⟨u5, hu⟩ : ∃ u, (u4.setCell ⟨BN, 0, none⟩ (.int .i64 lq1)).setCell ⟨BN, 1, none⟩ (.int .i64 lq2) = u := ⟨_, rfl⟩
              have hb : Below z1.heap.size u4 u5 := by rw [← hu]; exact ((Below.refl _ _).setCell (p := ⟨BN, 0, none⟩) BNN.out _).setCell (p := ⟨BN, 1, none⟩) BNN.out _
              replace KBN := Lib.hid ((KBN.out.set 0 (.int .i64 lq1)).set 1 (.int .i64 lq2))
              rw [hu] at KBN ⊢
              clear hu
              replace T := Lib.hid (T.out.trans hb)
              refine ⟨hb, ?_⟩
              clear hb
              refine WT_yes 14 rfl (by kernel_rfl) (fun _ _ _ _ _ h => h) (by rfl) ?_; apply Exists.intro; refine ⟨fun w1 hb1 => ?_, ?_⟩; (focus ((skip; have hb1 := Lib.hid hb1; go_simp); (try (go_bits; try go_simp)); (try (rw [if_pos (by omega)]; try go_simp)); (first | done | (fail) | (with_reducible rfl) | exact rfl)))
              simp only [Act.put, List.setIfInBounds_toArray, List.set_cons_zero, List.set_cons_succ]
              refine WT_done (by kernel_rfl) ?_
              go_wp2_with fail
              go_meet
              case rel => exact ⟨BN, rfl, rfl, rfl, KBN, T⟩
          · unfold stepT
            go_wp2_with fail
            obtain ⟨u2, hwA⟩ : ∃ wA, u1.alloc (.cells #[.int .i64 0, .int .i64 0] 28) = wA := ⟨_, rfl⟩
            rw [hwA]
            have hb : Below u1.heap.size u1 u2 := by subst hwA; exact bAlloc (bSelf _) _
            replace HR1 := Lib.hid (HR1.out.to hb)
            have KBN : Hid (Blk u2 u1.heap.size #[.int .i64 0, .int .i64 0]) := by subst hwA; exact Blk.new _ _ _
            clear hwA
            have BNN : Hid (z1.heap.size ≤ u1.heap.size) := Lib.hid T.out.size
            obtain ⟨BN, hBN⟩ : ∃ N, u1.heap.size = N := ⟨_, rfl⟩
            have hbd := Lib.hid (hb.mono T.out.size)
            replace T := Lib.hid (bThen T.out hb)
            clear hb
            rw [hBN] at KBN BNN  ⊢
            clear hBN
            refine ⟨hbd.out, ?_⟩
            clear hbd
            refine WT_one 5 rfl (by kernel_rfl) ?_
            unfold stepT
            go_wp2_with fail
            refine (HCR.out _ (bThen HB.out T.out)).mono ?_
            rintro e u3 ⟨a2, c2, rfl, -, hr2, hb, -⟩
            replace KBN := Lib.hid (KBN.out.to hb)
            replace HR1 := Lib.hid (HR1.out.to hb)
            have HR2 := Lib.hid hr2
            clear hr2
            have hbd := Lib.hid (hb.mono T.out.size)
            replace T := Lib.hid (bThen T.out hb)
            clear hb
            go_wp2_with fail
            refine ⟨hbd.out, ?_⟩
            clear hbd
            refine WT_one 6 rfl (by kernel_rfl) ?_
            unfold stepT
            go_wp2_with fail
            refine (HLW.out _ _ _ _ _ HR1.out HR2.out).mono ?_
            rintro e u4 ⟨rfl, hb⟩
            replace KBN := Lib.hid (KBN.out.to hb)
            replace HR1 := Lib.hid (HR1.out.to hb)
            replace HR2 := Lib.hid (HR2.out.to hb)
            have hbd := Lib.hid (hb.mono T.out.size)
            replace T := Lib.hid (bThen T.out hb)
            clear hb
            go_wp2_with fail
            refine ⟨hbd.out, ?_⟩
            clear hbd
            refine WT_yes 7 rfl (by kernel_rfl) (fun _ _ _ _ _ h => h) (by rfl) ?_; apply Exists.intro; refine ⟨fun w1 hb1 => ?_, ?_⟩; (focus ((skip; have hb1 := Lib.hid hb1; go_simp); (try (go_bits; try go_simp)); (try (rw [if_pos (by omega)]; try go_simp)); (first | done | (fail) | (with_reducible rfl) | exact rfl)))
            simp only [Act.put, List.setIfInBounds_toArray, List.set_cons_zero, List.set_cons_succ]
            refine WT_yes 8 rfl (by kernel_rfl) (fun _ _ _ _ _ h => h) (by rfl) ?_; apply Exists.intro; refine ⟨fun w1 hb1 => ?_, ?_⟩; (focus ((skip; have hb1 := Lib.hid hb1; go_simp); (try (go_bits; try go_simp)); (try (rw [if_pos (by omega)]; try go_simp)); (first | done | (fail) | (with_reducible rfl) | exact rfl)))
            simp only [Act.put, List.setIfInBounds_toArray, List.set_cons_zero, List.set_cons_succ]
            refine WT_yes 9 rfl (by kernel_rfl) (fun _ _ _ _ _ h => h) (by rfl) ?_; apply Exists.intro; refine ⟨fun w1 hb1 => ?_, ?_⟩; (focus ((skip; have hb1 := Lib.hid hb1; go_simp); (try (go_bits; try go_simp)); (try (rw [if_pos (by omega)]; try go_simp)); (first | done | (fail) | (with_reducible rfl) | exact rfl)))
            simp only [Act.put, List.setIfInBounds_toArray, List.set_cons_zero, List.set_cons_succ]
            refine WT_yes 10 rfl (by kernel_rfl) (fun _ _ _ _ _ h => h) (by rfl) ?_; apply Exists.intro; refine ⟨fun w1 hb1 => ?_, ?_⟩; (focus ((skip; have hb1 := Lib.hid hb1; go_simp); (try (go_bits; try go_simp)); (try (rw [if_pos (by omega)]; try go_simp)); (first | done | (fail) | (with_reducible rfl) | exact rfl)))
            simp only [Act.put, List.setIfInBounds_toArray, List.set_cons_zero, List.set_cons_succ]
            refine WT_yes 12 rfl (by kernel_rfl) (fun _ _ _ _ _ h => h) (by rfl) ?_; apply Exists.intro; refine ⟨fun w1 hb1 => ?_, ?_⟩; (focus ((skip; have hb1 := Lib.hid hb1; go_simp); (try (go_bits; try go_simp)); (try (rw [if_pos (by omega)]; try go_simp)); (first | done | (fail) | (with_reducible rfl) | exact rfl)))
            simp only [Act.put, List.setIfInBounds_toArray, List.set_cons_zero, List.set_cons_succ]
            refine WT_one 13 rfl (by kernel_rfl) ?_
            unfold stepT
            obtain ⟨-, kx, fx⟩ := KBN.out
            go_wp2_with fail
            clear kx fx
            obtain ⟨u5, hu⟩ : ∃ u, (u4.setCell ⟨BN, 0, none⟩ (.int .i64 lq1)).setCell ⟨BN, 1, none⟩ (.int .i64 lq2) = u := ⟨_, rfl⟩
            have hb : Below z1.heap.size u4 u5 := by rw [← hu]; exact ((Below.refl _ _).setCell (p := ⟨BN, 0, none⟩) BNN.out _).setCell (p := ⟨BN, 1, none⟩) BNN.out _
            replace KBN := Lib.hid ((KBN.out.set 0 (.int .i64 lq1)).set 1 (.int .i64 lq2))
            rw [hu] at KBN ⊢
            clear hu
            replace T := Lib.hid (T.out.trans hb)
            refine ⟨hb, ?_⟩
            clear hb
            refine WT_yes 14 rfl (by kernel_rfl) (fun _ _ _ _ _ h => h) (by rfl) ?_; apply Exists.intro; refine ⟨fun w1 hb1 => ?_, ?_⟩; (focus ((skip; have hb1 := Lib.hid hb1; go_simp); (try (go_bits; try go_simp)); (try (rw [if_pos (by omega)]; try go_simp)); (first | done | (fail) | (with_reducible rfl) | exact rfl)))
            simp only [Act.put, List.setIfInBounds_toArray, List.set_cons_zero, List.set_cons_succ]
            refine WT_done (by kernel_rfl) ?_
            go_wp2_with fail
            go_meet
            case rel => exact ⟨BN, rfl, rfl, rfl, KBN, T⟩
        · unfold stepT
          go_wp2_with fail
          obtain ⟨u1, hwA⟩ : ∃ wA, wd.alloc (.cells #[.int .i64 0, .int .i64 0] 28) = wA := ⟨_, rfl⟩
          rw [hwA]
          have hb : Below wd.heap.size wd u1 := by subst hwA; exact bAlloc (bSelf _) _
          have KBN : Hid (Blk u1 wd.heap.size #[.int .i64 0, .int .i64 0]) := by subst hwA; exact Blk.new _ _ _
          clear hwA
          have BNN : Hid (z1.heap.size ≤ wd.heap.size) := Lib.hid T.out.size
          obtain ⟨BN, hBN⟩ : ∃ N, wd.heap.size = N := ⟨_, rfl⟩
          have hbd := Lib.hid (hb.mono T.out.size)
          replace T := Lib.hid (bThen T.out hb)
          clear hb
          rw [hBN] at KBN BNN  ⊢
          clear hBN
          refine ⟨hbd.out, ?_⟩
          clear hbd
          refine WT_one 1 rfl (by kernel_rfl) ?_
          unfold stepT
          go_wp2_with fail
          refine (HCPY.out _ (bThen HB.out T.out)).mono ?_
          rintro e u2 ⟨a1, c1, rfl, -, hr1, hb, -⟩
          replace KBN := Lib.hid (KBN.out.to hb)
          have HR1 := Lib.hid hr1
          clear hr1
          unfold plC
          rw [HM.out] at HR1 ⊢
          have hbd := Lib.hid (hb.mono T.out.size)
          replace T := Lib.hid (bThen T.out hb)
          clear hb
          go_wp2_with fail
          refine ⟨hbd.out, ?_⟩
          clear hbd
          refine WT_one 5 rfl (by kernel_rfl) ?_
          unfold stepT
          go_wp2_with fail
          refine (HCR.out _ (bThen HB.out T.out)).mono ?_
          rintro e u3 ⟨a2, c2, rfl, -, hr2, hb, -⟩
          replace KBN := Lib.hid (KBN.out.to hb)
          replace HR1 := Lib.hid (HR1.out.to hb)
          have HR2 := Lib.hid hr2
          clear hr2
          have hbd := Lib.hid (hb.mono T.out.size)
          replace T := Lib.hid (bThen T.out hb)
          clear hb
          go_wp2_with fail
          refine ⟨hbd.out, ?_⟩
          clear hbd
          refine WT_one 6 rfl (by kernel_rfl) ?_
          unfold stepT
          go_wp2_with fail
          refine (HLW.out _ _ _ _ _ HR1.out HR2.out).mono ?_
          rintro e u4 ⟨rfl, hb⟩
          replace KBN := Lib.hid (KBN.out.to hb)
          replace HR1 := Lib.hid (HR1.out.to hb)
          replace HR2 := Lib.hid (HR2.out.to hb)
          have hbd := Lib.hid (hb.mono T.out.size)
          replace T := Lib.hid (bThen T.out hb)
          clear hb
          go_wp2_with fail
          refine ⟨hbd.out, ?_⟩
          clear hbd
          refine WT_yes 7 rfl (by kernel_rfl) (fun _ _ _ _ _ h => h) (by rfl) ?_; apply Exists.intro; refine ⟨fun w1 hb1 => ?_, ?_⟩; (focus ((skip; have hb1 := Lib.hid hb1; go_simp); (try (go_bits; try go_simp)); (try (rw [if_pos (by omega)]; try go_simp)); (first | done | (fail) | (with_reducible rfl) | exact rfl)))
          simp only [Act.put, List.setIfInBounds_toArray, List.set_cons_zero, List.set_cons_succ]
          refine WT_yes 8 rfl (by kernel_rfl) (fun _ _ _ _ _ h => h) (by rfl) ?_; apply Exists.intro; refine ⟨fun w1 hb1 => ?_, ?_⟩; (focus ((skip; have hb1 := Lib.hid hb1; go_simp); (try (go_bits; try go_simp)); (try (rw [if_pos (by omega)]; try go_simp)); (first | done | (fail) | (with_reducible rfl) | exact rfl)))
          simp only [Act.put, List.setIfInBounds_toArray, List.set_cons_zero, List.set_cons_succ]
          refine WT_yes 9 rfl (by kernel_rfl) (fun _ _ _ _ _ h => h) (by rfl) ?_; apply Exists.intro; refine ⟨fun w1 hb1 => ?_, ?_⟩; (focus ((skip; have hb1 := Lib.hid hb1; go_simp); (try (go_bits; try go_simp)); (try (rw [if_pos (by omega)]; try go_simp)); (first | done | (fail) | (with_reducible rfl) | exact rfl)))
          simp only [Act.put, List.setIfInBounds_toArray, List.set_cons_zero, List.set_cons_succ]
          refine WT_yes 10 rfl (by kernel_rfl) (fun _ _ _ _ _ h => h) (by rfl) ?_; apply Exists.intro; refine ⟨fun w1 hb1 => ?_, ?_⟩; (focus ((skip; have hb1 := Lib.hid hb1; go_simp); (try (go_bits; try go_simp)); (try (rw [if_pos (by omega)]; try go_simp)); (first | done | (fail) | (with_reducible rfl) | exact rfl)))
          simp only [Act.put, List.setIfInBounds_toArray, List.set_cons_zero, List.set_cons_succ]
          refine WT_yes 12 rfl (by kernel_rfl) (fun _ _ _ _ _ h => h) (by rfl) ?_; apply Exists.intro; refine ⟨fun w1 hb1 => ?_, ?_⟩; (focus ((skip; have hb1 := Lib.hid hb1; go_simp); (try (go_bits; try go_simp)); (try (rw [if_pos (by omega)]; try go_simp)); (first | done | (fail) | (with_reducible rfl) | exact rfl)))
          simp only [Act.put, List.setIfInBounds_toArray, List.set_cons_zero, List.set_cons_succ]
          refine WT_one 13 rfl (by kernel_rfl) ?_
          unfold stepT
          obtain ⟨-, kx, fx⟩ := KBN.out
          go_wp2_with fail
          clear kx fx
          obtain ⟨u5, hu⟩ : ∃ u, (u4.setCell ⟨BN, 0, none⟩ (.int .i64 lq1)).setCell ⟨BN, 1, none⟩ (.int .i64 lq2) = u := ⟨_, rfl⟩
          have hb : Below z1.heap.size u4 u5 := by rw [← hu]; exact ((Below.refl _ _).setCell (p := ⟨BN, 0, none⟩) BNN.out _).setCell (p := ⟨BN, 1, none⟩) BNN.out _
          replace KBN := Lib.hid ((KBN.out.set 0 (.int .i64 lq1)).set 1 (.int .i64 lq2))
          rw [hu] at KBN ⊢
          clear hu
          replace T := Lib.hid (T.out.trans hb)
          refine ⟨hb, ?_⟩
          clear hb
          refine WT_yes 14 rfl (by kernel_rfl) (fun _ _ _ _ _ h => h) (by rfl) ?_; apply Exists.intro; refine ⟨fun w1 hb1 => ?_, ?_⟩; (focus ((skip; have hb1 := Lib.hid hb1; go_simp); (try (go_bits; try go_simp)); (try (rw [if_pos (by omega)]; try go_simp)); (first | done | (fail) | (with_reducible rfl) | exact rfl)))
          simp only [Act.put, List.setIfInBounds_toArray, List.set_cons_zero, List.set_cons_succ]
          refine WT_done (by kernel_rfl) ?_
          go_wp2_with fail
          go_meet
          case rel => exact ⟨BN, rfl, rfl, rfl, KBN, T⟩
      obtain ⟨z2, hwo⟩ : ∃ wo, wo = wc := ⟨_, rfl⟩
      subst hwo
      obtain ⟨B14, rfl, rfl, rfl, K14, hb⟩ := hcut
      replace hb := hb.out
      replace K3 := Lib.hid (K3.out.to hb)
      replace K4 := Lib.hid (K4.out.to hb)
      replace K5 := Lib.hid (K5.out.to hb)
      replace HB := Lib.hid (bThen HB.out hb)
      replace HRR := Lib.hid (HRR.out.to hb)
      replace HRL := Lib.hid (HRL.out.to hb)
      clear hb HLW
      go_wp2_with fail
      refine wp_region_tree (by kernel_rfl) (fun wd hwd => ?_)
      have T := Lib.hid hwd
      clear hwd
      refine WT_yes 0 rfl (by kernel_rfl) (fun _ _ _ _ _ h => h) (by rfl) ?_; apply Exists.intro; refine ⟨fun w1 hb1 => ?_, ?_⟩; (focus (((obtain ⟨-, k3, -⟩ := K3.out.to (T.out.trans hb1)); have hb1 := Lib.hid hb1; go_simp); (try (go_bits; try go_simp)); (try (rw [if_pos (by omega)]; try go_simp)); (first | done | (fail) | (with_reducible rfl) | exact rfl)))
      simp only [Act.put, List.setIfInBounds_toArray, List.set_cons_zero, List.set_cons_succ]
      refine WT_yes 2 rfl (by kernel_rfl) (fun _ _ _ _ _ h => h) (by rfl) ?_; apply Exists.intro; refine ⟨fun w1 hb1 => ?_, ?_⟩; (focus (((obtain ⟨-, k4, -⟩ := K4.out.to (T.out.trans hb1)); have hb1 := Lib.hid hb1; go_simp); (try (go_bits; try go_simp)); (try (rw [if_pos (by omega)]; try go_simp)); (first | done | (fail) | (with_reducible rfl) | exact rfl)))
      simp only [Act.put, List.setIfInBounds_toArray, List.set_cons_zero, List.set_cons_succ]
      refine WT_yes 3 rfl (by kernel_rfl) (fun _ _ _ _ _ h => h) (by rfl) ?_; apply Exists.intro; refine ⟨fun w1 hb1 => ?_, ?_⟩; (focus (((obtain ⟨-, k5, -⟩ := K5.out.to (T.out.trans hb1)); have hb1 := Lib.hid hb1; go_simp); (try (go_bits; try go_simp)); (try (rw [if_pos (by omega)]; try go_simp)); (first | done | (fail) | (with_reducible rfl) | exact rfl)))
      simp only [Act.put, List.setIfInBounds_toArray, List.set_cons_zero, List.set_cons_succ]
      refine WT_yes 4 rfl (by kernel_rfl) (fun _ _ _ _ _ h => h) (by rfl) ?_; apply Exists.intro; refine ⟨fun w1 hb1 => ?_, ?_⟩; (focus (((obtain ⟨-, k5, -⟩ := K5.out.to (T.out.trans hb1)); have hb1 := Lib.hid hb1; go_simp); (try (go_bits; try go_simp)); (try (rw [if_pos (by omega)]; try go_simp)); (first | done | (fail) | (with_reducible rfl) | exact rfl)))
      simp only [Act.put, List.setIfInBounds_toArray, List.set_cons_zero, List.set_cons_succ]
      refine WT_yes 6 rfl (by kernel_rfl) (fun _ _ _ _ _ h => h) (by rfl) ?_; apply Exists.intro; refine ⟨fun w1 hb1 => ?_, ?_⟩; (focus (((obtain ⟨-, k5, -⟩ := K5.out.to (T.out.trans hb1)); have hb1 := Lib.hid hb1; go_simp); (try (go_bits; try go_simp)); (try (rw [if_pos (by omega)]; try go_simp)); (first | done | (fail) | (with_reducible rfl) | exact rfl)))
      simp only [Act.put, List.setIfInBounds_toArray, List.set_cons_zero, List.set_cons_succ]
      refine WT_yes 7 rfl (by kernel_rfl) (fun _ _ _ _ _ h => h) (by rfl) ?_; apply Exists.intro; refine ⟨fun w1 hb1 => ?_, ?_⟩; (focus (((obtain ⟨-, k5, -⟩ := K5.out.to (T.out.trans hb1)); have hb1 := Lib.hid hb1; go_simp); (try (go_bits; try go_simp)); (try (rw [if_pos (by omega)]; try go_simp)); (first | done | (fail) | (with_reducible rfl) | exact rfl)))
      simp only [Act.put, List.setIfInBounds_toArray, List.set_cons_zero, List.set_cons_succ]
      refine WT_one 1 rfl (by kernel_rfl) ?_
      unfold stepT
      go_wp2_with fail
      refine (HCPY.out _ (bThen HB.out T.out)).mono ?_
      rintro e g7 ⟨a1, c1, rfl, -, hr1, hb, -⟩
      have HR1 := Lib.hid hr1
      clear hr1
      unfold plC
      rw [HM.out] at HR1 ⊢
      have hbd := Lib.hid (hb.mono T.out.size)
      replace T := Lib.hid (bThen T.out hb)
      clear hb
      go_wp2_with fail
      refine ⟨hbd.out, ?_⟩
      clear hbd
      refine WT_one 5 rfl (by kernel_rfl) ?_
      unfold stepT
      go_wp2_with fail
      refine (HCR.out _ (bThen HB.out T.out)).mono ?_
      rintro e g8 ⟨a2, c2, rfl, -, hr2, hb, -⟩
      have HR2 := Lib.hid hr2
      clear hr2
      replace HR1 := Lib.hid (HR1.out.to hb)
      have hbd := Lib.hid (hb.mono T.out.size)
      replace T := Lib.hid (bThen T.out hb)
      clear hb
      go_wp2_with fail
      refine ⟨hbd.out, ?_⟩
      clear hbd
      refine WT_one 8 rfl (by kernel_rfl) ?_
      unfold stepT
      go_wp2_with fail
      refine (HPC.out _ _ _ _ _ HR1.out HR2.out).mono ?_
      rintro e g9 ⟨rfl, hb⟩
      clear HR1 HR2
      have hbd := Lib.hid (hb.mono T.out.size)
      replace T := Lib.hid (bThen T.out hb)
      clear hb
      go_wp2_with fail
      refine ⟨hbd.out, ?_⟩
      clear hbd
      refine WT_yes 9 rfl (by kernel_rfl) (fun _ _ _ _ _ h => h) (by rfl) ?_; apply Exists.intro; refine ⟨fun w1 hb1 => ?_, ?_⟩; (focus ((skip; have hb1 := Lib.hid hb1; go_simp); (try (go_bits; try go_simp)); (try (rw [if_pos (by omega)]; try go_simp)); (first | done | (fail) | (with_reducible rfl) | exact rfl)))
      simp only [Act.put, List.setIfInBounds_toArray, List.set_cons_zero, List.set_cons_succ]
      refine WT_yes 10 rfl (by kernel_rfl) (fun _ _ _ _ _ h => h) (by rfl) ?_; apply Exists.intro; refine ⟨fun w1 hb1 => ?_, ?_⟩; (focus ((skip; have hb1 := Lib.hid hb1; go_simp); (try (go_bits; try go_simp)); (try (rw [if_pos (by omega)]; try go_simp)); (first | done | (fail) | (with_reducible rfl) | exact rfl)))
      simp only [Act.put, List.setIfInBounds_toArray, List.set_cons_zero, List.set_cons_succ]
      refine WT_yes 11 rfl (by kernel_rfl) (fun _ _ _ _ _ h => h) (by rfl) ?_; apply Exists.intro; refine ⟨fun w1 hb1 => ?_, ?_⟩; (focus ((skip; have hb1 := Lib.hid hb1; go_simp); (try (go_bits; try go_simp)); (try (rw [if_pos (by omega)]; try go_simp)); (first | done | (fail) | (with_reducible rfl) | exact rfl)))
      simp only [Act.put, List.setIfInBounds_toArray, List.set_cons_zero, List.set_cons_succ]
      refine WT_yes 12 rfl (by kernel_rfl) (fun _ _ _ _ _ h => h) (by rfl) ?_; apply Exists.intro; refine ⟨fun w1 hb1 => ?_, ?_⟩; (focus ((skip; have hb1 := Lib.hid hb1; go_simp); (try (go_bits; try go_simp)); (try (rw [if_pos (by omega)]; try go_simp)); (first | done | (fail) | (with_reducible rfl) | exact rfl)))
      simp only [Act.put, List.setIfInBounds_toArray, List.set_cons_zero, List.set_cons_succ]
      refine WT_yes 13 rfl (by kernel_rfl) (fun _ _ _ _ _ h => h) (by rfl) ?_; apply Exists.intro; refine ⟨fun w1 hb1 => ?_, ?_⟩; (focus ((skip; have hb1 := Lib.hid hb1; go_simp); (try (go_bits; try go_simp)); (try (rw [if_pos (by omega)]; try go_simp)); (first | done | (fail) | (with_reducible rfl) | exact rfl)))
      simp only [Act.put, List.setIfInBounds_toArray, List.set_cons_zero, List.set_cons_succ]
      refine WT_done (by kernel_rfl) ?_
      replace HB := Lib.hid (bThen HB.out T.out)
      replace K3 := Lib.hid (K3.out.to T.out)
      replace K4 := Lib.hid (K4.out.to T.out)
      replace K5 := Lib.hid (K5.out.to T.out)
      replace HRR := Lib.hid (HRR.out.to T.out)
      replace HRL := Lib.hid (HRL.out.to T.out)
      replace K14 := Lib.hid (K14.out.to T.out)
      clear T
      clear HPC HCR
      rcases HEV.out with ⟨rfl, rfl, rfl, e4⟩ | ⟨rfl, hol, rfl, rfl, hrl, hin, t0, t1, hsm, hden, hall, rfl⟩
      · clear HEV
        rcases e4 with rfl | rfl
        · go_wp2_with fail
          go_ret
          exact ⟨rfl, HB.out⟩
        · go_wp2_with fail
          go_ret
          exact ⟨rfl, HB.out⟩
      · obtain ⟨no, hno⟩ : ∃ n, oc.length = n := ⟨_, rfl⟩
        rw [hno] at HRL hol ⊢
        rw [hrl] at HRR ⊢
        have HNO := Lib.hid hno
        have HALL := Lib.hid hall
        have HIN := Lib.hid hin
        have HSM := Lib.hid hsm
        clear HEV hno hall hin hsm
        have hd0 : ¬ lq2 ≤ 0 := by omega
        have ht0 : ¬ lt < 0 := by omega
        have ht1 : ¬ (k : Int) < lt := by omega
        have hol' : ¬ (500 : Int) < (no : Int) := by omega
        obtain ⟨-, k14, -⟩ := K14.out
        go_wp2_with fail
        clear k14
        obtain ⟨z3, hz3⟩ : ∃ z, z = g9 := ⟨_, rfl⟩
        subst hz3
        go_loopw [18, 19, 20] (fun s18 _ _ wr => ∃ j : Nat, s18 = .int .i64 j ∧ j ≤ k + 1 ∧ Hid (Below z3.heap.size z3 wr)) (fun s18 _ _ _ => k + 1 - (intOf s18).toNat)
        case atStart => exact ⟨0, rfl, Nat.zero_le _, Lib.hid (bSelf _)⟩
        case round =>
          obtain ⟨j, rfl, hj, HR0⟩ := hrel
          by_cases hlt : j < k + 1
          · obtain ⟨g, go, rfl, hg, hgc⟩ := HRR.out.at (k := j * 2) (by omega)
            obtain ⟨⟨n1, d1⟩, hz⟩ : ∃ q, sg ro j = q := ⟨_, rfl⟩
            have E0 : Hid (z3.cell? ⟨g, go + j * 2, none⟩ = some (.int .i64 n1)) := Lib.hid (by rw [hgc _ (by omega), osts0, hz])
            obtain ⟨e1, e2, e3, e4⟩ := HALL.out j (by omega)
            rw [hz] at e1 e2 e3 e4
            have HP1 := Lib.hid (fun W a1 c1 h => HPA.out W a1 c1 n1 h)
            dsimp only at e1 e2 e3 e4
            obtain ⟨⟨p1, p2⟩, hpq⟩ : ∃ q, prsR p n1 = q := ⟨_, rfl⟩
            rw [e1, hpq] at HP1
            rw [hpq] at e2 e3 e4
            have HCM := Lib.hid (fun W => cmp_rPr W e2 HSM.out)
            obtain ⟨cq, hcq⟩ : ∃ x, cmpQ (p1, p2) (lq1, lq2) = x := ⟨_, rfl⟩
            rw [hcq] at HCM e4
            dsimp only at HCM HP1 e3
            have e3' : ¬ p2 ≤ 0 := by omega
            have e4' : ¬ cq < 0 := by omega
            clear hgc hz hpq hcq e1 e2
            have HB1 := Lib.hid (bThen HB.out HR0.out)
            have K31 := Lib.hid (K3.out.to HR0.out)
            obtain ⟨wo, hwo⟩ : ∃ wo, wo = wr := ⟨_, rfl⟩
            subst hwo
            go_wp2_with fail
            refine wp_region_tree (by kernel_rfl) (fun wd hwd => ?_)
            have T := Lib.hid hwd
            clear hwd
            refine WT_yes 0 rfl (by kernel_rfl) (fun _ _ _ _ _ h => h) (by rfl) ?_; apply Exists.intro; refine ⟨fun w1 hb1 => ?_, ?_⟩; (focus (((obtain ⟨-, k3, -⟩ := K31.out.to (T.out.trans hb1)); have hb1 := Lib.hid hb1; go_simp); (try (go_bits; try go_simp)); (try (rw [if_pos (by omega)]; try go_simp)); (first | done | (fail) | (with_reducible rfl) | exact rfl)))
            simp only [Act.put, List.setIfInBounds_toArray, List.set_cons_zero, List.set_cons_succ]
            refine WT_yes 2 rfl (by kernel_rfl) (fun _ _ _ _ _ h => h) (by rfl) ?_; apply Exists.intro; refine ⟨fun w1 hb1 => ?_, ?_⟩; (focus ((skip; have hb1 := Lib.hid hb1; go_simp); (try (go_bits; try go_simp)); (try (rw [if_pos (by omega)]; try go_simp)); (first | done | (fail) | (with_reducible rfl) | exact rfl)))
            simp only [Act.put, List.setIfInBounds_toArray, List.set_cons_zero, List.set_cons_succ]
            refine WT_yes 3 rfl (by kernel_rfl) (fun _ _ _ _ _ h => h) (by rfl) ?_; apply Exists.intro; refine ⟨fun w1 hb1 => ?_, ?_⟩; (focus ((skip; have hb1 := Lib.hid hb1; go_simp); (try (go_bits; try go_simp)); (try (rw [if_pos (by omega)]; try go_simp)); (first | done | (fail) | (with_reducible rfl) | exact rfl)))
            simp only [Act.put, List.setIfInBounds_toArray, List.set_cons_zero, List.set_cons_succ]
            refine WT_yes 4 rfl (by kernel_rfl) (fun _ _ _ _ _ h => h) (by rfl) ?_; apply Exists.intro; refine ⟨fun w1 hb1 => ?_, ?_⟩; (focus ((skip; have hb1 := Lib.hid hb1; go_simp); (try (go_bits; try go_simp)); (try (rw [if_pos (by omega)]; try go_simp)); (first | done | (fail) | (with_reducible rfl) | exact rfl)))
            simp only [Act.put, List.setIfInBounds_toArray, List.set_cons_zero, List.set_cons_succ]
            refine WT_yes 5 rfl (by kernel_rfl) (fun _ _ _ _ _ h => h) (by rfl) ?_; apply Exists.intro; refine ⟨fun w1 hb1 => ?_, ?_⟩; (focus ((skip; have hb1 := Lib.hid hb1; go_simp); (try (go_bits; try go_simp)); (try (rw [if_pos (by omega)]; try go_simp)); (first | done | (fail) | (with_reducible rfl) | exact rfl)))
            simp only [Act.put, List.setIfInBounds_toArray, List.set_cons_zero, List.set_cons_succ]
            refine WT_yes 6 rfl (by kernel_rfl) (fun _ _ _ _ _ h => h) (by rfl) ?_; apply Exists.intro; refine ⟨fun w1 hb1 => ?_, ?_⟩; (focus (((have e0 := (((HR0.out.trans (T.out.mono HR0.out.size)).trans (hb1.mono (by have := T.out.size; have := HR0.out.size; omega))).cell (p := ⟨g, go + j * 2, none⟩) hg).trans E0.out); have hb1 := Lib.hid hb1; go_simp); (try (go_bits; try go_simp)); (try (rw [if_pos (by omega)]; try go_simp)); (first | done | (fail) | (with_reducible rfl) | exact rfl)))
            simp only [Act.put, List.setIfInBounds_toArray, List.set_cons_zero, List.set_cons_succ]
            refine WT_two 1 11 rfl rfl (by kernel_rfl) ?_ ?_
            · unfold stepT
              go_wp2_with fail
              refine (HCPY.out _ (bThen HB1.out T.out)).mono ?_
              rintro e u1 ⟨a1, c1, rfl, -, hr1, hb, -⟩
              have HR1 := Lib.hid hr1
              clear hr1
              unfold plC
              rw [HM.out] at HR1 ⊢
              have hbd := Lib.hid (hb.mono T.out.size)
              replace T := Lib.hid (bThen T.out hb)
              clear hb
              go_wp2_with fail
              refine ⟨hbd.out, ?_⟩
              clear hbd
              refine WT_two 7 11 rfl rfl (by kernel_rfl) ?_ ?_
              · unfold stepT
                go_wp2_with fail
                refine (HP1.out _ _ _ HR1.out).mono ?_
                rintro e u2 ⟨rfl, hb⟩
                replace HR1 := Lib.hid (HR1.out.to hb)
                have hbd := Lib.hid (hb.mono T.out.size)
                replace T := Lib.hid (bThen T.out hb)
                clear hb
                go_wp2_with fail
                refine ⟨hbd.out, ?_⟩
                clear hbd
                refine WT_yes 8 rfl (by kernel_rfl) (fun _ _ _ _ _ h => h) (by rfl) ?_; apply Exists.intro; refine ⟨fun w1 hb1 => ?_, ?_⟩; (focus ((skip; have hb1 := Lib.hid hb1; go_simp); (try (go_bits; try go_simp)); (try (rw [if_pos (by omega)]; try go_simp)); (first | done | (fail) | (with_reducible rfl) | exact rfl)))
                simp only [Act.put, List.setIfInBounds_toArray, List.set_cons_zero, List.set_cons_succ]
                refine WT_yes 9 rfl (by kernel_rfl) (fun _ _ _ _ _ h => h) (by rfl) ?_; apply Exists.intro; refine ⟨fun w1 hb1 => ?_, ?_⟩; (focus ((skip; have hb1 := Lib.hid hb1; go_simp); (try (go_bits; try go_simp)); (try (rw [if_pos (by omega)]; try go_simp)); (first | done | (fail) | (with_reducible rfl) | exact rfl)))
                simp only [Act.put, List.setIfInBounds_toArray, List.set_cons_zero, List.set_cons_succ]
                refine WT_yes 10 rfl (by kernel_rfl) (fun _ _ _ _ _ h => h) (by rfl) ?_; apply Exists.intro; refine ⟨fun w1 hb1 => ?_, ?_⟩; (focus ((skip; have hb1 := Lib.hid hb1; go_simp); (try (go_bits; try go_simp)); (try (rw [if_pos (by omega)]; try go_simp)); (first | done | (fail) | (with_reducible rfl) | exact rfl)))
                simp only [Act.put, List.setIfInBounds_toArray, List.set_cons_zero, List.set_cons_succ]
                refine WT_one 11 rfl (by kernel_rfl) ?_
                unfold stepT
                go_wp2_with fail
                obtain ⟨u3, hwA⟩ : ∃ wA, u2.alloc (.cells #[.int .i64 0, .int .i64 0] 28) = wA := ⟨_, rfl⟩
                rw [hwA]
                have hb : Below u2.heap.size u2 u3 := by subst hwA; exact bAlloc (bSelf _) _
                replace HR1 := Lib.hid (HR1.out.to hb)
                have KBN : Hid (Blk u3 u2.heap.size #[.int .i64 0, .int .i64 0]) := by subst hwA; exact Blk.new _ _ _
                clear hwA
                have BNN : Hid (wo.heap.size ≤ u2.heap.size) := Lib.hid T.out.size
                obtain ⟨BN, hBN⟩ : ∃ N, u2.heap.size = N := ⟨_, rfl⟩
                have hbd := Lib.hid (hb.mono T.out.size)
                replace T := Lib.hid (bThen T.out hb)
                clear hb
                rw [hBN] at KBN BNN  ⊢
                clear hBN
                refine ⟨hbd.out, ?_⟩
                clear hbd
                refine WT_one 12 rfl (by kernel_rfl) ?_
                unfold stepT
                obtain ⟨-, kx, fx⟩ := KBN.out
                go_wp2_with fail
                clear kx fx
                obtain ⟨u4, hu⟩ : ∃ u, (u3.setCell ⟨BN, 0, none⟩ (.int .i64 p1)).setCell ⟨BN, 1, none⟩ (.int .i64 p2) = u := ⟨_, rfl⟩
                have hb : Below wo.heap.size u3 u4 := by rw [← hu]; exact ((Below.refl _ _).setCell (p := ⟨BN, 0, none⟩) BNN.out _).setCell (p := ⟨BN, 1, none⟩) BNN.out _
                replace KBN := Lib.hid ((KBN.out.set 0 (.int .i64 p1)).set 1 (.int .i64 p2))
                rw [hu] at KBN ⊢
                clear hu
                replace T := Lib.hid (T.out.trans hb)
                refine ⟨hb, ?_⟩
                clear hb
                refine WT_yes 13 rfl (by kernel_rfl) (fun _ _ _ _ _ h => h) (by rfl) ?_; apply Exists.intro; refine ⟨fun w1 hb1 => ?_, ?_⟩; (focus ((skip; have hb1 := Lib.hid hb1; go_simp); (try (go_bits; try go_simp)); (try (rw [if_pos (by omega)]; try go_simp)); (first | done | (fail) | (with_reducible rfl) | exact rfl)))
                simp only [Act.put, List.setIfInBounds_toArray, List.set_cons_zero, List.set_cons_succ]
                refine WT_done (by kernel_rfl) ?_
                have K14f := Lib.hid (K14.out.to (HR0.out.trans (T.out.mono HR0.out.size)))
                obtain ⟨-, k14, -⟩ := K14f.out
                obtain ⟨-, kn, -⟩ := KBN.out
                go_wp2_with fail
                clear k14 kn
                refine (HCM.out _).mono ?_
                rintro e wq ⟨rfl, hb⟩
                replace HR0 := Lib.hid (bThen (HR0.out.trans (T.out.mono HR0.out.size)) hb)
                clear hb T
                go_wp2_with fail
                go_roundw
                case rel => exact ⟨j + 1, by go_num, by omega, HR0⟩
                case measure => simp [intOf]; omega
              · unfold stepT
                go_wp2_with fail
                obtain ⟨u2, hwA⟩ : ∃ wA, u1.alloc (.cells #[.int .i64 0, .int .i64 0] 28) = wA := ⟨_, rfl⟩
                rw [hwA]
                have hb : Below u1.heap.size u1 u2 := by subst hwA; exact bAlloc (bSelf _) _
                replace HR1 := Lib.hid (HR1.out.to hb)
                have KBN : Hid (Blk u2 u1.heap.size #[.int .i64 0, .int .i64 0]) := by subst hwA; exact Blk.new _ _ _
                clear hwA
                have BNN : Hid (wo.heap.size ≤ u1.heap.size) := Lib.hid T.out.size
                obtain ⟨BN, hBN⟩ : ∃ N, u1.heap.size = N := ⟨_, rfl⟩
                have hbd := Lib.hid (hb.mono T.out.size)
                replace T := Lib.hid (bThen T.out hb)
                clear hb
                rw [hBN] at KBN BNN  ⊢
                clear hBN
                refine ⟨hbd.out, ?_⟩
                clear hbd
                refine WT_one 7 rfl (by kernel_rfl) ?_
                unfold stepT
                go_wp2_with fail
                refine (HP1.out _ _ _ HR1.out).mono ?_
                rintro e u3 ⟨rfl, hb⟩
                replace KBN := Lib.hid (KBN.out.to hb)
                replace HR1 := Lib.hid (HR1.out.to hb)
                have hbd := Lib.hid (hb.mono T.out.size)
                replace T := Lib.hid (bThen T.out hb)
                clear hb
                go_wp2_with fail
                refine ⟨hbd.out, ?_⟩
                clear hbd
                refine WT_yes 8 rfl (by kernel_rfl) (fun _ _ _ _ _ h => h) (by rfl) ?_; apply Exists.intro; refine ⟨fun w1 hb1 => ?_, ?_⟩; (focus ((skip; have hb1 := Lib.hid hb1; go_simp); (try (go_bits; try go_simp)); (try (rw [if_pos (by omega)]; try go_simp)); (first | done | (fail) | (with_reducible rfl) | exact rfl)))
                simp only [Act.put, List.setIfInBounds_toArray, List.set_cons_zero, List.set_cons_succ]
                refine WT_yes 9 rfl (by kernel_rfl) (fun _ _ _ _ _ h => h) (by rfl) ?_; apply Exists.intro; refine ⟨fun w1 hb1 => ?_, ?_⟩; (focus ((skip; have hb1 := Lib.hid hb1; go_simp); (try (go_bits; try go_simp)); (try (rw [if_pos (by omega)]; try go_simp)); (first | done | (fail) | (with_reducible rfl) | exact rfl)))
                simp only [Act.put, List.setIfInBounds_toArray, List.set_cons_zero, List.set_cons_succ]
                refine WT_yes 10 rfl (by kernel_rfl) (fun _ _ _ _ _ h => h) (by rfl) ?_; apply Exists.intro; refine ⟨fun w1 hb1 => ?_, ?_⟩; (focus ((skip; have hb1 := Lib.hid hb1; go_simp); (try (go_bits; try go_simp)); (try (rw [if_pos (by omega)]; try go_simp)); (first | done | (fail) | (with_reducible rfl) | exact rfl)))
                simp only [Act.put, List.setIfInBounds_toArray, List.set_cons_zero, List.set_cons_succ]
                refine WT_one 12 rfl (by kernel_rfl) ?_
                unfold stepT
                obtain ⟨-, kx, fx⟩ := KBN.out
                go_wp2_with fail
                clear kx fx
                obtain ⟨u4, hu⟩ : ∃ u, (u3.setCell ⟨BN, 0, none⟩ (.int .i64 p1)).setCell ⟨BN, 1, none⟩ (.int .i64 p2) = u := ⟨_, rfl⟩
                have hb : Below wo.heap.size u3 u4 := by rw [← hu]; exact ((Below.refl _ _).setCell (p := ⟨BN, 0, none⟩) BNN.out _).setCell (p := ⟨BN, 1, none⟩) BNN.out _
                replace KBN := Lib.hid ((KBN.out.set 0 (.int .i64 p1)).set 1 (.int .i64 p2))
                rw [hu] at KBN ⊢
                clear hu
                replace T := Lib.hid (T.out.trans hb)
                refine ⟨hb, ?_⟩
                clear hb
                refine WT_yes 13 rfl (by kernel_rfl) (fun _ _ _ _ _ h => h) (by rfl) ?_; apply Exists.intro; refine ⟨fun w1 hb1 => ?_, ?_⟩; (focus ((skip; have hb1 := Lib.hid hb1; go_simp); (try (go_bits; try go_simp)); (try (rw [if_pos (by omega)]; try go_simp)); (first | done | (fail) | (with_reducible rfl) | exact rfl)))
                simp only [Act.put, List.setIfInBounds_toArray, List.set_cons_zero, List.set_cons_succ]
                refine WT_done (by kernel_rfl) ?_
                have K14f := Lib.hid (K14.out.to (HR0.out.trans (T.out.mono HR0.out.size)))
                obtain ⟨-, k14, -⟩ := K14f.out
                obtain ⟨-, kn, -⟩ := KBN.out
                go_wp2_with fail
                clear k14 kn
                refine (HCM.out _).mono ?_
                rintro e wq ⟨rfl, hb⟩
                replace HR0 := Lib.hid (bThen (HR0.out.trans (T.out.mono HR0.out.size)) hb)
                clear hb T
                go_wp2_with fail
                go_roundw
                case rel => exact ⟨j + 1, by go_num, by omega, HR0⟩
                case measure => simp [intOf]; omega
            · unfold stepT
              go_wp2_with fail
              obtain ⟨u1, hwA⟩ : ∃ wA, wd.alloc (.cells #[.int .i64 0, .int .i64 0] 28) = wA := ⟨_, rfl⟩
              rw [hwA]
              have hb : Below wd.heap.size wd u1 := by subst hwA; exact bAlloc (bSelf _) _
              have KBN : Hid (Blk u1 wd.heap.size #[.int .i64 0, .int .i64 0]) := by subst hwA; exact Blk.new _ _ _
              clear hwA
              have BNN : Hid (wo.heap.size ≤ wd.heap.size) := Lib.hid T.out.size
              obtain ⟨BN, hBN⟩ : ∃ N, wd.heap.size = N := ⟨_, rfl⟩
              have hbd := Lib.hid (hb.mono T.out.size)
              replace T := Lib.hid (bThen T.out hb)
              clear hb
              rw [hBN] at KBN BNN  ⊢
              clear hBN
              refine ⟨hbd.out, ?_⟩
              clear hbd
              refine WT_one 1 rfl (by kernel_rfl) ?_
              unfold stepT
              go_wp2_with fail
              refine (HCPY.out _ (bThen HB1.out T.out)).mono ?_
              rintro e u2 ⟨a1, c1, rfl, -, hr1, hb, -⟩
              replace KBN := Lib.hid (KBN.out.to hb)
              have HR1 := Lib.hid hr1
              clear hr1
              unfold plC
              rw [HM.out] at HR1 ⊢
              have hbd := Lib.hid (hb.mono T.out.size)
              replace T := Lib.hid (bThen T.out hb)
              clear hb
              go_wp2_with fail
              refine ⟨hbd.out, ?_⟩
              clear hbd
              refine WT_one 7 rfl (by kernel_rfl) ?_
              unfold stepT
              go_wp2_with fail
              refine (HP1.out _ _ _ HR1.out).mono ?_
              rintro e u3 ⟨rfl, hb⟩
              replace KBN := Lib.hid (KBN.out.to hb)
              replace HR1 := Lib.hid (HR1.out.to hb)
              have hbd := Lib.hid (hb.mono T.out.size)
              replace T := Lib.hid (bThen T.out hb)
              clear hb
              go_wp2_with fail
              refine ⟨hbd.out, ?_⟩
              clear hbd
              refine WT_yes 8 rfl (by kernel_rfl) (fun _ _ _ _ _ h => h) (by rfl) ?_; apply Exists.intro; refine ⟨fun w1 hb1 => ?_, ?_⟩; (focus ((skip; have hb1 := Lib.hid hb1; go_simp); (try (go_bits; try go_simp)); (try (rw [if_pos (by omega)]; try go_simp)); (first | done | (fail) | (with_reducible rfl) | exact rfl)))
              simp only [Act.put, List.setIfInBounds_toArray, List.set_cons_zero, List.set_cons_succ]
              refine WT_yes 9 rfl (by kernel_rfl) (fun _ _ _ _ _ h => h) (by rfl) ?_; apply Exists.intro; refine ⟨fun w1 hb1 => ?_, ?_⟩; (focus ((skip; have hb1 := Lib.hid hb1; go_simp); (try (go_bits; try go_simp)); (try (rw [if_pos (by omega)]; try go_simp)); (first | done | (fail) | (with_reducible rfl) | exact rfl)))
              simp only [Act.put, List.setIfInBounds_toArray, List.set_cons_zero, List.set_cons_succ]
              refine WT_yes 10 rfl (by kernel_rfl) (fun _ _ _ _ _ h => h) (by rfl) ?_; apply Exists.intro; refine ⟨fun w1 hb1 => ?_, ?_⟩; (focus ((skip; have hb1 := Lib.hid hb1; go_simp); (try (go_bits; try go_simp)); (try (rw [if_pos (by omega)]; try go_simp)); (first | done | (fail) | (with_reducible rfl) | exact rfl)))
              simp only [Act.put, List.setIfInBounds_toArray, List.set_cons_zero, List.set_cons_succ]
              refine WT_one 12 rfl (by kernel_rfl) ?_
              unfold stepT
              obtain ⟨-, kx, fx⟩ := KBN.out
              go_wp2_with fail
              clear kx fx
              obtain ⟨u4, hu⟩ : ∃ u, (u3.setCell ⟨BN, 0, none⟩ (.int .i64 p1)).setCell ⟨BN, 1, none⟩ (.int .i64 p2) = u := ⟨_, rfl⟩
              have hb : Below wo.heap.size u3 u4 := by rw [← hu]; exact ((Below.refl _ _).setCell (p := ⟨BN, 0, none⟩) BNN.out _).setCell (p := ⟨BN, 1, none⟩) BNN.out _
              replace KBN := Lib.hid ((KBN.out.set 0 (.int .i64 p1)).set 1 (.int .i64 p2))
              rw [hu] at KBN ⊢
              clear hu
              replace T := Lib.hid (T.out.trans hb)
              refine ⟨hb, ?_⟩
              clear hb
              refine WT_yes 13 rfl (by kernel_rfl) (fun _ _ _ _ _ h => h) (by rfl) ?_; apply Exists.intro; refine ⟨fun w1 hb1 => ?_, ?_⟩; (focus ((skip; have hb1 := Lib.hid hb1; go_simp); (try (go_bits; try go_simp)); (try (rw [if_pos (by omega)]; try go_simp)); (first | done | (fail) | (with_reducible rfl) | exact rfl)))
              simp only [Act.put, List.setIfInBounds_toArray, List.set_cons_zero, List.set_cons_succ]
              refine WT_done (by kernel_rfl) ?_
              have K14f := Lib.hid (K14.out.to (HR0.out.trans (T.out.mono HR0.out.size)))
              obtain ⟨-, k14, -⟩ := K14f.out
              obtain ⟨-, kn, -⟩ := KBN.out
              go_wp2_with fail
              clear k14 kn
              refine (HCM.out _).mono ?_
              rintro e wq ⟨rfl, hb⟩
              replace HR0 := Lib.hid (bThen (HR0.out.trans (T.out.mono HR0.out.size)) hb)
              clear hb T
              go_wp2_with fail
              go_roundw
              case rel => exact ⟨j + 1, by go_num, by omega, HR0⟩
              case measure => simp [intOf]; omega
          · obtain rfl : j = k + 1 := by omega
            replace K5 := Lib.hid (K5.out.to HR0.out)
            replace K14 := Lib.hid (K14.out.to HR0.out)
            replace HB := Lib.hid (bThen HB.out HR0.out)
            replace HRR := Lib.hid (HRR.out.to HR0.out)
            replace HRL := Lib.hid (HRL.out.to HR0.out)
            clear HALL HPA HCPY K3 K4
            obtain ⟨g, go, rfl, hg, hgc⟩ := HRR.out.at (k := k * 2) (by omega)
            obtain ⟨⟨n1, d1⟩, hz⟩ : ∃ q, sg ro k = q := ⟨_, rfl⟩
            have E0 : Hid (wr.cell? ⟨g, go + k * 2, none⟩ = some (.int .i64 n1)) := Lib.hid (by rw [hgc _ (by omega), osts0, hz])
            have E1 : Hid (wr.cell? ⟨g, go + k * 2 + 1, none⟩ = some (.bool d1)) := Lib.hid (by rw [Nat.add_assoc, hgc _ (by omega), osts1, hz])
            rw [hz] at HIN
            have hkk : ((k + 1 : Nat) : Int) - 1 = (k : Int) := by omega
            clear hgc hz HR0
            obtain ⟨z4, hz4⟩ : ∃ z, z = wr := ⟨_, rfl⟩
            subst hz4
            go_wp2_with fail
            go_loopw [21, 22] (fun s21 s22 wr => ∃ j : Nat, s21 = .bool (inS (oc.take j) (n1, d1)) ∧ s22 = .int .i64 j ∧ j ≤ no ∧ Hid (Below z4.heap.size z4 wr)) (fun _ s22 _ => no - (intOf s22).toNat)
            case atStart => exact ⟨0, rfl, rfl, Nat.zero_le _, Lib.hid (bSelf _)⟩
            case round =>
              obtain ⟨j, rfl, rfl, hj, HR0⟩ := hrel
              obtain ⟨wo, hwo⟩ : ∃ wo, wo = wr := ⟨_, rfl⟩
              subst hwo
              by_cases hlt : j < no
              · have hjl : j < oc.length := by have := HNO.out; omega
                obtain ⟨bl, ol, rfl, hbl, hlc'⟩ := (HRL.out.to HR0.out).at (k := j * 2) (by omega)
                obtain ⟨⟨n2, d2⟩, hz2⟩ : ∃ q, sg oc j = q := ⟨_, rfl⟩
                have F0 : Hid (wo.cell? ⟨bl, ol + j * 2, none⟩ = some (.int .i64 n2)) := Lib.hid (by rw [hlc' _ (by omega), osts0, hz2])
                have F1 : Hid (wo.cell? ⟨bl, ol + j * 2 + 1, none⟩ = some (.bool d2)) := Lib.hid (by rw [Nat.add_assoc, hlc' _ (by omega), osts1, hz2])
                have hnx : inS (oc.take (j + 1)) (n1, d1) = (inS (oc.take j) (n1, d1) || ((n1, d1) : OSt) == (n2, d2)) := by
                  rw [List.take_succ_eq_append_getElem hjl, ← inS_snoc]
                  congr 2
                  rw [← hz2]; unfold sg; rw [List.getD_eq_getElem?_getD, List.getElem?_eq_getElem hjl]; rfl
                have HNX := Lib.hid hnx
                have E0' : Hid (wo.cell? ⟨g, go + k * 2, none⟩ = some (.int .i64 n1)) := Lib.hid ((HR0.out.cell (p := ⟨g, go + k * 2, none⟩) hg).trans E0.out)
                have E1' : Hid (wo.cell? ⟨g, go + k * 2 + 1, none⟩ = some (.bool d1)) := Lib.hid ((HR0.out.cell (p := ⟨g, go + k * 2 + 1, none⟩) hg).trans E1.out)
                have hg' : g < wo.heap.size := Nat.lt_of_lt_of_le hg HR0.out.size
                obtain ⟨fb, hfb⟩ : ∃ b, inS (oc.take j) (n1, d1) = b := ⟨_, rfl⟩
                rw [hfb] at HNX ⊢
                clear hlc' hz2 hnx hfb
                cases fb
                · by_cases he : (n2, d2) = (n1, d1)
                  · cases he
                    go_wp2_with fail
                    refine wp_region_quiet_all (fun w' => Below (World.heap wo).size (wo) w') (by kernel_rfl) (by kernel_rfl) (Below.refl _ _).drew ?_
                    refine WQ.out ?_
                    repeat (first | (refine WQ_no (by rfl) ?_; (simp only [Act.put, List.setIfInBounds_toArray, List.set_cons_zero, List.set_cons_succ])) | (refine WQ_yes (by rfl) ?_; apply Exists.intro; refine ⟨fun w1 hb1 => ?_, ?_⟩; (focus (((have e0 := (hb1.cell (p := ⟨g, go + k * 2, none⟩) hg').trans E0'.out; have e1 := (hb1.cell (p := ⟨g, go + k * 2 + 1, none⟩) hg').trans E1'.out; have f0 := (hb1.cell (p := ⟨bl, ol + j * 2, none⟩) hbl).trans F0.out; have f1 := (hb1.cell (p := ⟨bl, ol + j * 2 + 1, none⟩) hbl).trans F1.out); have hb1 := Lib.hid hb1; go_simp); (try (go_bits; try go_simp)); (try (rw [if_pos (by omega)]; try go_simp)); (first | done | (fail) | (with_reducible rfl) | exact rfl))); (simp only [Act.put, List.setIfInBounds_toArray, List.set_cons_zero, List.set_cons_succ])))
                    refine WQ_nil ?_
                    intro w1 hb1
                    replace HR0 := Lib.hid (bThen HR0.out hb1)
                    clear hb1
                    go_wp2_with fail
                    go_roundw
                    case rel => exact ⟨j + 1, by rw [HNX.out]; simp, by go_num, by omega, HR0⟩
                    case measure => simp [intOf]; omega
                  · have HE := Lib.hid he
                    have heb : (((n1, d1) : OSt) == (n2, d2)) = false := by rw [beq_eq_false_iff_ne]; exact fun e => he e.symm
                    have HEB := Lib.hid heb
                    have hcs : (¬ n2 = n1) ∨ (n2 = n1 ∧ ¬ d2 = d1) := by
                      by_cases h : n2 = n1
                      · exact .inr ⟨h, fun h2 => HE.out (by rw [h, h2])⟩
                      · exact .inl h
                    clear heb he
                    rcases hcs with hn | ⟨rfl, hn⟩
                    all_goals
                      go_wp2_with fail
                      refine wp_region_quiet_all (fun w' => Below (World.heap wo).size (wo) w') (by kernel_rfl) (by kernel_rfl) (Below.refl _ _).drew ?_
                      refine WQ.out ?_
                      repeat (first | (refine WQ_no (by rfl) ?_; (simp only [Act.put, List.setIfInBounds_toArray, List.set_cons_zero, List.set_cons_succ])) | (refine WQ_yes (by rfl) ?_; apply Exists.intro; refine ⟨fun w1 hb1 => ?_, ?_⟩; (focus (((have e0 := (hb1.cell (p := ⟨g, go + k * 2, none⟩) hg').trans E0'.out; have e1 := (hb1.cell (p := ⟨g, go + k * 2 + 1, none⟩) hg').trans E1'.out; have f0 := (hb1.cell (p := ⟨bl, ol + j * 2, none⟩) hbl).trans F0.out; have f1 := (hb1.cell (p := ⟨bl, ol + j * 2 + 1, none⟩) hbl).trans F1.out); have hb1 := Lib.hid hb1; go_simp); (try (go_bits; try go_simp)); (try (rw [if_pos (by omega)]; try go_simp)); (first | done | (fail) | (with_reducible rfl) | exact rfl))); (simp only [Act.put, List.setIfInBounds_toArray, List.set_cons_zero, List.set_cons_succ])))
                      refine WQ_nil ?_
                      intro w1 hb1
                      replace HR0 := Lib.hid (bThen HR0.out hb1)
                      clear hb1
                      go_wp2_with fail
                      go_roundw
                      case rel => exact ⟨j + 1, by rw [HNX.out, HEB.out]; rfl, by go_num, by omega, HR0⟩
                      case measure => simp [intOf]; omega
                · go_wp2_with fail
                  refine wp_region_quiet_all (fun w' => Below (World.heap wo).size (wo) w') (by kernel_rfl) (by kernel_rfl) (Below.refl _ _).drew ?_
                  refine WQ.out ?_
                  repeat (first | (refine WQ_no (by rfl) ?_; (simp only [Act.put, List.setIfInBounds_toArray, List.set_cons_zero, List.set_cons_succ])) | (refine WQ_yes (by rfl) ?_; apply Exists.intro; refine ⟨fun w1 hb1 => ?_, ?_⟩; (focus ((skip; have hb1 := Lib.hid hb1; go_simp); (try (go_bits; try go_simp)); (try (rw [if_pos (by omega)]; try go_simp)); (first | done | (fail) | (with_reducible rfl) | exact rfl))); (simp only [Act.put, List.setIfInBounds_toArray, List.set_cons_zero, List.set_cons_succ])))
                  refine WQ_nil ?_
                  intro w1 hb1
                  replace HR0 := Lib.hid (bThen HR0.out hb1)
                  clear hb1
                  go_wp2_with fail
                  go_roundw
                  case rel => exact ⟨j + 1, by rw [HNX.out]; rfl, by go_num, by omega, HR0⟩
                  case measure => simp [intOf]; omega
              · obtain rfl : j = no := by omega
                have hfin : inS (oc.take j) (n1, d1) = true := by rw [← HNO.out, List.take_length]; exact HIN.out
                rw [hfin]
                replace K5 := Lib.hid (K5.out.to HR0.out)
                replace K14 := Lib.hid (K14.out.to HR0.out)
                replace HB := Lib.hid (bThen HB.out HR0.out)
                have HCM := Lib.hid (fun W => cmp_rPr W HSM.out (show SmF (lim, 1) from ⟨by have := HLB.out; dsimp only; omega, by have := HLB.out; dsimp only; omega, by dsimp only; omega, by dsimp only; omega⟩))
                obtain ⟨cq, hcq⟩ : ∃ x, cmpQ (lq1, lq2) (lim, 1) = x := ⟨_, rfl⟩
                rw [hcq] at HCM
                dsimp only at HCM hcq ⊢
                rw [hcq]
                clear hfin hcq E0 E1 HRR HRL HIN HR0
                obtain ⟨cb, hcb⟩ : ∃ b, decide (0 ≤ cq) = b := ⟨_, rfl⟩
                rw [hcb]
                go_wp2_with fail
                refine wp_region_quiet_all (fun w' => Below (World.heap wo).size (wo) w') (by kernel_rfl) (by kernel_rfl) (Below.refl _ _).drew ?_
                refine WQ.out ?_
                repeat (first | (refine WQ_no (by rfl) ?_; (simp only [Act.put, List.setIfInBounds_toArray, List.set_cons_zero, List.set_cons_succ])) | (refine WQ_yes (by rfl) ?_; apply Exists.intro; refine ⟨fun w1 hb1 => ?_, ?_⟩; (focus (((obtain ⟨-, k5, -⟩ := K5.out.to hb1; obtain ⟨-, k14, -⟩ := K14.out.to hb1); have hb1 := Lib.hid hb1; go_simp); (try (go_bits; try go_simp)); (try (rw [if_pos (by omega)]; try go_simp)); (first | done | ((first | (go_at_call 22; refine (oWhole_any lim _).mono ?_; rintro e w' ⟨rfl, hb⟩; exact ⟨rfl, bThen hb1.out hb⟩) | (go_at_call 21; refine (HCM.out _).mono ?_; rintro e w' ⟨rfl, hb⟩; exact ⟨rfl, bThen hb1.out hb⟩))) | (with_reducible rfl) | exact rfl))); (simp only [Act.put, List.setIfInBounds_toArray, List.set_cons_zero, List.set_cons_succ])))
                refine WQ_nil ?_
                intro w1 hb1
                go_wp2_with fail
                go_ret
                exact ⟨by first | rfl | simp, bThen HB.out hb1⟩

end Go.Proofs.YtjfedpblkejmkaaGreat

