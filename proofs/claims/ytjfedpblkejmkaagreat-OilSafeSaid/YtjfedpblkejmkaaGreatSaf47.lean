/-
  Texts of this claim, in their build order: OL8.
-/
import Derived.Test.YtjfedpblkejmkaaGreatSaf44
import Derived.Test.YtjfedpblkejmkaaGreatSaf45
import Derived.Test.YtjfedpblkejmkaaGreatSaf43
import Derived.Test.YtjfedpblkejmkaaGreatSaf18
import Derived.Test.YtjfedpblkejmkaaGreatSaf46

/-
  OilSafe.
-/
namespace Go.Proofs.YtjfedpblkejmkaaGreat
open Go.RowKit
attribute [local go_sem] Oper.semAt_some

/-- Two rows apart: ranges, whole numbers. -/
structure TwR (N : Nat) (W : World) (v1 v2 : Value) (k1 k2 : Nat) (xs1 xs2 : List Value) : Prop where
  lt : N ≤ W.heap.size
  r1 : W.ownsRow N 25 2 v1 k1 xs1
  r2 : W.ownsRow N 3 1 v2 k2 xs2
  ap : ∀ g, v1.ownBlock = some g → v2.ownBlock ≠ some g
theorem TwR.to {N : Nat} {W W' : World} {v1 v2 : Value} {k1 k2 : Nat} {xs1 xs2 : List Value} (h : TwR N W v1 v2 k1 k2 xs1 xs2) (hb : Below W.heap.size W W') : TwR N W' v1 v2 k1 k2 xs1 xs2 :=
  ⟨Nat.le_trans h.lt hb.size, owns_to h.r1 hb, owns_to h.r2 hb, h.ap⟩
theorem TwR.app1 {N : Nat} {W W' : World} {v1 v2 v' : Value} {k1 k2 m : Nat} {xs1 xs2 ys : List Value} (h : TwR N W v1 v2 k1 k2 xs1 xs2) (hown : W'.ownsRow N 25 2 v' m ys) (hg : W.grownBy W' v1.ownBlock) (hw : v'.ownBlock = v1.ownBlock ∨ v'.ownBlock = some W.heap.size) :
    TwR N W' v' v2 m k2 ys xs2 ∧ Below N W W' := by
  refine ⟨⟨Nat.le_trans h.lt hg.size, hown, h.r2.kept hg ?_, fun g e e2 => ?_⟩, (Below.refl _ _).grown hg h.lt (fun k e => (h.r1.lt k e).1)⟩
  · cases hv : v2.ownBlock with
    | none => exact .inl rfl
    | some g => exact .inr (fun e => h.ap g e.symm hv)
  · rcases hw with hw | hw
    · exact h.ap g (hw ▸ e) e2
    · have := (h.r2.lt g e2).2
      rw [hw] at e
      cases e
      omega
theorem TwR.app2 {N : Nat} {W W' : World} {v1 v2 v' : Value} {k1 k2 m : Nat} {xs1 xs2 ys : List Value} (h : TwR N W v1 v2 k1 k2 xs1 xs2) (hown : W'.ownsRow N 3 1 v' m ys) (hg : W.grownBy W' v2.ownBlock) (hw : v'.ownBlock = v2.ownBlock ∨ v'.ownBlock = some W.heap.size) :
    TwR N W' v1 v' k1 m xs1 ys ∧ Below N W W' := by
  refine ⟨⟨Nat.le_trans h.lt hg.size, h.r1.kept hg ?_, hown, fun g e e2 => ?_⟩, (Below.refl _ _).grown hg h.lt (fun k e => (h.r2.lt k e).1)⟩
  · cases hv : v1.ownBlock with
    | none => exact .inl rfl
    | some g => exact .inr (fun e => h.ap g hv e.symm)
  · rcases hw with hw | hw
    · exact h.ap g e (hw ▸ e2)
    · have := (h.r1.lt g e).2
      rw [hw] at e2
      cases e2
      omega

/-- What SafeFor and CheckSafe answer for what is valid. -/
structure SafF (p : Plt) (r : Int × Int) (lim : Int) (S L : List OSt) : Prop where
  ok : PltOk p
  rg : 0 ≤ r.1 ∧ r.2 ≤ 50 ∧ r.1 ≤ r.2
  er : opRE p r lim = 0
  eq : safO p r lim = S
  le : S.length ≤ 32
  cs : csR p r lim S = (0, 0)
  sw : ∀ k, k < S.length → StW (sg S k)
  inn : (csR p r lim L).2 = 0 → ∀ k, k < L.length → inS S (sg L k) = true
  st : ∀ k, k < S.length → stE p (sg S k).1 = 0
  prm : ∀ k, k < S.length → ∀ d, d ≤ 20 → opLE p (sg S k).1 (cnL r d) lim = 0 ∧ prmB p (sg S k) (cnL r d) lim = true
  run : ∀ ys k, k < S.length → ∀ d, d ≤ 20 → rnR p (sg S k) (dmL r ys d) = 0 ∧ (runO p (sg S k) (dmL r ys d)).length = d + 1 ∧ inS S (sg (runO p (sg S k) (dmL r ys d)) d) = true
theorem safF_of {p : Plt} {r : Int × Int} {lim : Int} {L : List OSt} (h1 : (chP p).2 = 0) (h2 : rgE r = 0) (h3 : unl (wthn lim 0 1000) 2 = 0) (hc : capV p.pts ≤ 15) : SafF p r lim (safS p r lim) L := by
  have he := opRE_of h1 h2 h3
  have hp := chP_ok h1
  have hr := rgE_ok h2
  have hst : ∀ k, k < (safS p r lim).length → StOk p (sg (safS p r lim) k) := fun k hk => saf_ok (sg_mem hk)
  have hin : ∀ k, k < (safS p r lim).length → inS (safS p r lim) (sg (safS p r lim) k) = true := fun k hk => inS_iff.2 (sg_mem hk)
  have hse : ∀ k, k < (safS p r lim).length → opSE p (sg (safS p r lim) k).1 = 0 := fun k hk => by
    have h : 0 ≤ (sg (safS p r lim) k).1 ∧ (sg (safS p r lim) k).1 ≤ capV p.pts := hst k hk
    unfold opSE
    rw [if_pos h1, unlZ (by decide)]
    simp [h.1, h.2]
  refine ⟨hp, hr, he, by unfold safO; rw [if_pos he], saf_len hp hc, cs_saf he, fun k hk => ?_, fun hy k hk => cs_in he hy hk, fun k hk => ?_, fun k hk d hd => ?_, fun ys k hk d hd => dm_run (hse k hk) hr (hin k hk) hd⟩
  · have h : 0 ≤ (sg (safS p r lim) k).1 ∧ (sg (safS p r lim) k).1 ≤ capV p.pts := hst k hk
    exact ⟨by omega, by omega⟩
  · have h : 0 ≤ (sg (safS p r lim) k).1 ∧ (sg (safS p r lim) k).1 ≤ capV p.pts := hst k hk
    unfold stE
    rw [unlZ (by decide), wthn_iff]
    exact h
  · have h4 := cn_err (k := d) h1 h2 h3 (hst k hk) hd
    exact ⟨h4, cn_prm h4 (hin k hk)⟩

set_option maxHeartbeats 12800000 in
set_option maxRecDepth 100000 in
theorem OilSafe_any (p : Plt) (lo hi lim wh : Int) (L : List OSt) (ys : List Int) (a aL ay : Option Addr) (cap cL cy : Nat) (w : World) (hWL : ∀ k, k < L.length → StW (sg L k)) (hr : Reads w a (p.pts.length * 2) (fracs p.pts)) (hrL : Reads w aL (L.length * 2) (osts L)) (hry : Reads w ay ys.length (ints ys)) :
    Calls Tryz.prog 9 #[.agg (plC p a cap), .agg #[.int .i64 lo, .int .i64 hi, .int .i64 lim], .agg #[.slice aL L.length cL, .int .i64 wh, .slice ay ys.length cy]] w fun e w' => e = .returned (.bool true) ∧ Below w.heap.size w w' := by
  have HAW := Lib.hid (fun W => oAwake_any W)
  have HFW := Lib.hid (fun W => lFew_any p a cap W)
  have HPE := Lib.hid (fun W (h10 : p.pts.length ≤ 10) (hb : Below w.heap.size w W) => rPlantErr_any p a cap W (by omega) (hr.to hb))
  have HCP := Lib.hid (fun W (h0 : (chP p).2 = 0) (hb : Below w.heap.size w W) => rCapacity_any p a cap W (by have := (chP_ok h0).pts.two; omega) (by have := (chP_ok h0).pts.few; omega) (hr.to hb))
  have HRG := Lib.hid (fun W => rRangeErr_any lo hi W)
  have HRO := Lib.hid (fun (h : rgE (lo, hi) = 0) => (show 0 ≤ lo ∧ hi ≤ 50 ∧ lo ≤ hi from rgE_ok h))
  have HLM := Lib.hid (fun W => rLimitErr_any lim W)
  have HCPY := Lib.hid (fun W (h10 : p.pts.length ≤ 10) (hb : Below w.heap.size w W) => rCopyPlant_any p a cap W (by omega) (hr.to hb))
  have HSF := Lib.hid (fun W a1 c1 (h10 : p.pts.length ≤ 10) h1 => SafeFor_any p lo hi lim a1 c1 W (by omega) h1)
  have HCS := Lib.hid (fun W (M : List OSt) a1 c1 a2 c2 (h10 : p.pts.length ≤ 10) (hM : M.length ≤ 1000) hW h1 h2 => CheckSafe_any p (lo, hi) lim M a1 a2 c1 c2 W (by omega) hM hW h1 h2)
  have HCL := Lib.hid (fun W (h40 : L.length ≤ 40) (hb : Below w.heap.size w W) => rCopyStates_any L aL cL W (by omega) (hrL.to hb))
  have HSE := Lib.hid (fun W (t : OSt) (h0 : (chP p).2 = 0) (hb : Below w.heap.size w W) => rStateErr_any p t a cap W (by have := (chP_ok h0).pts.two; omega) (by have := (chP_ok h0).pts.few; omega) (hr.to hb))
  have HIP := Lib.hid (fun W (t : OSt) d a1 c1 a2 c2 (h10 : p.pts.length ≤ 10) (hd : d ≤ 20) h1 h2 => IsPermitted_any p t (cnL (lo, hi) d) lim a1 a2 c1 c2 W (by omega) (by rw [cnL_len]; unfold maxLen; omega) h2 h1)
  have HRN := Lib.hid (fun W (t : OSt) d a1 c1 a2 c2 (h10 : p.pts.length ≤ 10) (hd : d ≤ 20) h1 h2 => oRunOf_any p t (dmL (lo, hi) ys d) a1 a2 c1 c2 W (by omega) (by rw [dmL_len]; unfold maxLen; omega) h1 h2)
  have HFF := Lib.hid (fun (h1 : (chP p).2 = 0) (h2 : rgE (lo, hi) = 0) (h3 : unl (wthn lim 0 1000) 2 = 0) (hc : capV p.pts ≤ 15) => safF_of (L := L) h1 h2 h3 hc)
  have HLR := Lib.hid hrL
  have HYR := Lib.hid hry
  have HWL := Lib.hid hWL
  obtain ⟨m, hm⟩ : ∃ n, p.pts.length = n := ⟨_, rfl⟩
  obtain ⟨nL, hnL⟩ : ∃ n, L.length = n := ⟨_, rfl⟩
  obtain ⟨dn, hdn⟩ : ∃ n, ys.length = n := ⟨_, rfl⟩
  obtain ⟨ch, hch⟩ : ∃ b, (chP p).2 = b := ⟨_, rfl⟩
  obtain ⟨re, hre⟩ : ∃ b, rgE (lo, hi) = b := ⟨_, rfl⟩
  obtain ⟨le, hle⟩ : ∃ b, unl (wthn lim 0 1000) 2 = b := ⟨_, rfl⟩
  obtain ⟨C, hC⟩ : ∃ b, capV p.pts = b := ⟨_, rfl⟩
  have HM := Lib.hid hm
  have HNL := Lib.hid hnL
  rw [hm] at HFW HPE HCPY HSF HCS HIP HRN
  rw [hnL] at HCL HLR HWL ⊢
  rw [hdn] at HYR ⊢
  rw [hch] at HPE HCP HSE HFF
  rw [hre] at HRG HRO HFF
  rw [hle] at HLM HFF
  rw [hC] at HCP HFF
  clear hnL hdn hch hre hle hC hr hrL hry hWL
  unfold plC at HFW HPE HCP HCPY HSF HCS HSE HIP HRN ⊢
  rw [hm] at HFW HPE HCP HCPY HSF HCS HSE HIP HRN ⊢
  clear hm
  dsimp only at HCS
  go_enter Tryz.func9, Tryz.ntmps9
  go_wp2_with fail
  obtain ⟨W, hW⟩ : ∃ W, ((w.alloc (.cells #[.slice a m cap, .int .i64 p.pump, .int .i64 p.on, .int .i64 p.off] 44)).alloc (.cells #[.int .i64 lo, .int .i64 hi, .int .i64 lim] 95)).alloc (.cells #[.slice aL nL cL, .int .i64 wh, .slice ay dn cy] 117) = W := ⟨_, rfl⟩
  rw [hW]
  have K3 : Hid (Blk W w.heap.size #[.slice a m cap, .int .i64 p.pump, .int .i64 p.on, .int .i64 p.off]) := by subst hW; exact Lib.hid (((Blk.new _ _ _).alloc _).alloc _)
  have K4 : Hid (Blk W (w.heap.size + 1) #[.int .i64 lo, .int .i64 hi, .int .i64 lim]) := by subst hW; exact Lib.hid ((Blk.newAt _ _ _ (by simp)).alloc _)
  have K5 : Hid (Blk W (w.heap.size + 1 + 1) #[.slice aL nL cL, .int .i64 wh, .slice ay dn cy]) := by subst hW; exact Lib.hid (Blk.newAt _ _ _ (by simp))
  have HB : Hid (Below w.heap.size w W) := by subst hW; exact Lib.hid (bAlloc (bAlloc (bAlloc (bSelf w) _) _) _)
  clear hW
  refine (HAW.out _).mono ?_
  rintro e y1 ⟨rfl, hb⟩
  replace K3 := Lib.hid (K3.out.to hb)
  replace K4 := Lib.hid (K4.out.to hb)
  replace K5 := Lib.hid (K5.out.to hb)
  replace HB := Lib.hid (bThen HB.out hb)
  clear hb
  obtain ⟨-, k3, -⟩ := K3.out
  go_wp2_with fail
  clear k3
  refine (HFW.out _).mono ?_
  rintro e y2 ⟨rfl, hb⟩
  replace K3 := Lib.hid (K3.out.to hb)
  replace K4 := Lib.hid (K4.out.to hb)
  replace K5 := Lib.hid (K5.out.to hb)
  replace HB := Lib.hid (bThen HB.out hb)
  by_cases h10 : m ≤ 10
  case neg =>
    rw [decide_eq_false (show ¬ ((m : Int) ≤ 10) by omega)]
    go_wp2_with fail
    go_ret
    exact ⟨rfl, HB.out⟩

  rw [decide_eq_true (show ((m : Int) ≤ 10) by omega)]
  clear hb
  obtain ⟨-, k3, -⟩ := K3.out
  go_wp2_with fail
  clear k3
  refine (HPE.out _ h10 HB.out).mono ?_
  rintro e y3 ⟨rfl, hb⟩
  replace K3 := Lib.hid (K3.out.to hb)
  replace K4 := Lib.hid (K4.out.to hb)
  replace K5 := Lib.hid (K5.out.to hb)
  replace HB := Lib.hid (bThen HB.out hb)
  by_cases h0 : ch = 0
  case neg =>
    have h0' : (ch != 0) = true := by simpa using h0
    go_wp2_with fail
    go_ret
    exact ⟨rfl, HB.out⟩

  subst h0
  replace HCP := Lib.hid (fun W => HCP.out W rfl)
  replace HSE := Lib.hid (fun W t => HSE.out W t rfl)
  clear hb
  obtain ⟨-, k3, -⟩ := K3.out
  go_wp2_with fail
  clear k3
  refine (HCP.out _ HB.out).mono ?_
  rintro e y4 ⟨rfl, hb⟩
  replace K3 := Lib.hid (K3.out.to hb)
  replace K4 := Lib.hid (K4.out.to hb)
  replace K5 := Lib.hid (K5.out.to hb)
  replace HB := Lib.hid (bThen HB.out hb)
  by_cases hC : C ≤ 15
  case neg =>
    have hC' : (15 : Int) < C := by omega
    go_wp2_with fail
    go_ret
    exact ⟨rfl, HB.out⟩
  clear hb
  obtain ⟨-, k4, -⟩ := K4.out
  go_wp2_with fail
  clear k4
  refine (HRG.out _).mono ?_
  rintro e y5 ⟨rfl, hb⟩
  replace K3 := Lib.hid (K3.out.to hb)
  replace K4 := Lib.hid (K4.out.to hb)
  replace K5 := Lib.hid (K5.out.to hb)
  replace HB := Lib.hid (bThen HB.out hb)
  by_cases h1 : re = 0
  case neg =>
    have h1' : (re != 0) = true := by simpa using h1
    go_wp2_with fail
    go_ret
    exact ⟨rfl, HB.out⟩

  subst h1
  obtain ⟨hv0, hv1, hv2⟩ := HRO.out rfl
  clear hb
  obtain ⟨-, k4, -⟩ := K4.out
  by_cases h3 : hi - lo ≤ 3
  case neg =>
    have h3' : (3 : Int) < hi - lo := by omega
    go_wp2_with fail
    go_ret
    exact ⟨rfl, HB.out⟩

  go_wp2_with fail
  refine (HLM.out _).mono ?_
  rintro e w' ⟨rfl, rfl⟩
  by_cases h2 : le = 0
  case neg =>
    have h2' : (le != 0) = true := by simpa using h2
    go_wp2_with fail
    go_ret
    exact ⟨rfl, HB.out⟩

  subst h2
  have hsf := HFF.out (by first | trivial | rfl) (by first | trivial | rfl) (by first | trivial | rfl) hC
  obtain ⟨S, hS⟩ : ∃ S, safS p (lo, hi) lim = S := ⟨_, rfl⟩
  rw [hS] at hsf
  have SF := Lib.hid hsf
  clear hS hsf HFF HRG HRO HLM HPE HCP HFW HAW k4
  obtain ⟨-, k5, -⟩ := K5.out
  by_cases hL : nL ≤ 40
  case neg =>
    have hL' : (40 : Int) < (nL : Int) := by omega
    go_wp2_with fail
    go_ret
    exact ⟨rfl, HB.out⟩

  by_cases hd : dn ≤ 3
  case neg =>
    have hd' : (3 : Int) < (dn : Int) := by omega
    go_wp2_with fail
    go_ret
    exact ⟨rfl, HB.out⟩

  obtain ⟨nS, hnS⟩ : ∃ n, S.length = n := ⟨_, rfl⟩
  have HNS := Lib.hid hnS
  have hS32 : nS ≤ 32 := by have := SF.out.le; omega
  clear hnS
  replace HCPY := Lib.hid (fun W => HCPY.out W h10)
  replace HCL := Lib.hid (fun W => HCL.out W hL)
  replace HSF := Lib.hid (fun W a1 c1 => HSF.out W a1 c1 h10)
  unfold SPost at HSF
  rw [SF.out.eq, SF.out.er, HNS.out] at HSF
  have HC0 := Lib.hid (fun W a1 c1 a2 c2 h1 h2 => HCS.out W S a1 c1 a2 c2 h10 (by rw [HNS.out]; omega) SF.out.sw h1 h2)
  rw [SF.out.cs, HNS.out] at HC0
  have HC1 := Lib.hid (fun W a1 c1 a2 c2 h1 h2 => HCS.out W L a1 c1 a2 c2 h10 (by rw [HNL.out]; omega) (by rw [HNL.out]; exact HWL.out) h1 h2)
  have HIN := Lib.hid SF.out.inn
  obtain ⟨⟨x1, x2⟩, hx⟩ : ∃ x, csR p (lo, hi) lim L = x := ⟨_, rfl⟩
  rw [hx, HNL.out] at HC1
  rw [hx, HNL.out] at HIN
  dsimp only at HC0 HC1 HIN
  clear hx HCS HWL
  go_wp2_with fail
  clear k5
  refine wp_region_tree (by kernel_rfl) (fun wd hwd => ?_)
  have T := Lib.hid hwd
  clear hwd
  refine WT_yes 0 rfl (by kernel_rfl) (fun _ _ _ _ _ h => h) (by rfl) ?_; apply Exists.intro; refine ⟨fun w1 hb1 => ?_, ?_⟩; (focus (((obtain ⟨-, k3, -⟩ := K3.out.to (T.out.trans hb1)); have hb1 := Lib.hid hb1; go_simp); (try (go_bits; try go_simp)); (try (rw [if_pos (by omega)]; try go_simp)); (first | done | (fail) | (with_reducible rfl) | exact rfl)))
  simp only [Act.put, List.setIfInBounds_toArray, List.set_cons_zero, List.set_cons_succ]
  refine WT_yes 2 rfl (by kernel_rfl) (fun _ _ _ _ _ h => h) (by rfl) ?_; apply Exists.intro; refine ⟨fun w1 hb1 => ?_, ?_⟩; (focus (((obtain ⟨-, k4, -⟩ := K4.out.to (T.out.trans hb1)); have hb1 := Lib.hid hb1; go_simp); (try (go_bits; try go_simp)); (try (rw [if_pos (by omega)]; try go_simp)); (first | done | (fail) | (with_reducible rfl) | exact rfl)))
  simp only [Act.put, List.setIfInBounds_toArray, List.set_cons_zero, List.set_cons_succ]
  refine WT_yes 3 rfl (by kernel_rfl) (fun _ _ _ _ _ h => h) (by rfl) ?_; apply Exists.intro; refine ⟨fun w1 hb1 => ?_, ?_⟩; (focus (((obtain ⟨-, k4, -⟩ := K4.out.to (T.out.trans hb1)); have hb1 := Lib.hid hb1; go_simp); (try (go_bits; try go_simp)); (try (rw [if_pos (by omega)]; try go_simp)); (first | done | (fail) | (with_reducible rfl) | exact rfl)))
  simp only [Act.put, List.setIfInBounds_toArray, List.set_cons_zero, List.set_cons_succ]
  refine WT_yes 4 rfl (by kernel_rfl) (fun _ _ _ _ _ h => h) (by rfl) ?_; apply Exists.intro; refine ⟨fun w1 hb1 => ?_, ?_⟩; (focus (((obtain ⟨-, k4, -⟩ := K4.out.to (T.out.trans hb1)); have hb1 := Lib.hid hb1; go_simp); (try (go_bits; try go_simp)); (try (rw [if_pos (by omega)]; try go_simp)); (first | done | (fail) | (with_reducible rfl) | exact rfl)))
  simp only [Act.put, List.setIfInBounds_toArray, List.set_cons_zero, List.set_cons_succ]
  refine WT_yes 5 rfl (by kernel_rfl) (fun _ _ _ _ _ h => h) (by rfl) ?_; apply Exists.intro; refine ⟨fun w1 hb1 => ?_, ?_⟩; (focus (((obtain ⟨-, k4, -⟩ := K4.out.to (T.out.trans hb1)); have hb1 := Lib.hid hb1; go_simp); (try (go_bits; try go_simp)); (try (rw [if_pos (by omega)]; try go_simp)); (first | done | (fail) | (with_reducible rfl) | exact rfl)))
  simp only [Act.put, List.setIfInBounds_toArray, List.set_cons_zero, List.set_cons_succ]
  refine WT_one 1 rfl (by kernel_rfl) ?_
  unfold stepT
  go_wp2_with fail
  refine (HCPY.out _ (bThen HB.out T.out)).mono ?_
  rintro e g1 ⟨a1, c1, rfl, -, hr1, hb, -⟩
  have HR1 := Lib.hid hr1
  clear hr1
  unfold plC
  rw [HM.out] at HR1 ⊢
  have hbd := Lib.hid (hb.mono T.out.size)
  replace T := Lib.hid (bThen T.out hb)
  clear hb
  go_wp2_with fail
  refine ⟨hbd.out, ?_⟩
  clear hbd
  refine WT_one 6 rfl (by kernel_rfl) ?_
  unfold stepT
  go_wp2_with fail
  refine (HSF.out _ _ _ HR1.out).mono ?_
  rintro e g2 ⟨aS, cS, rfl, hcS, hrS, hb, -⟩
  have HRS := Lib.hid hrS
  clear hrS HR1
  have hbd := Lib.hid (hb.mono T.out.size)
  replace T := Lib.hid (bThen T.out hb)
  clear hb
  go_wp2_with fail
  refine ⟨hbd.out, ?_⟩
  clear hbd
  refine WT_yes 7 rfl (by kernel_rfl) (fun _ _ _ _ _ h => h) (by rfl) ?_; apply Exists.intro; refine ⟨fun w1 hb1 => ?_, ?_⟩; (focus ((skip; have hb1 := Lib.hid hb1; go_simp); (try (go_bits; try go_simp)); (try (rw [if_pos (by omega)]; try go_simp)); (first | done | (fail) | (with_reducible rfl) | exact rfl)))
  simp only [Act.put, List.setIfInBounds_toArray, List.set_cons_zero, List.set_cons_succ]
  refine WT_yes 8 rfl (by kernel_rfl) (fun _ _ _ _ _ h => h) (by rfl) ?_; apply Exists.intro; refine ⟨fun w1 hb1 => ?_, ?_⟩; (focus ((skip; have hb1 := Lib.hid hb1; go_simp); (try (go_bits; try go_simp)); (try (rw [if_pos (by omega)]; try go_simp)); (first | done | (fail) | (with_reducible rfl) | exact rfl)))
  simp only [Act.put, List.setIfInBounds_toArray, List.set_cons_zero, List.set_cons_succ]
  refine WT_yes 9 rfl (by kernel_rfl) (fun _ _ _ _ _ h => h) (by rfl) ?_; apply Exists.intro; refine ⟨fun w1 hb1 => ?_, ?_⟩; (focus ((skip; have hb1 := Lib.hid hb1; go_simp); (try (go_bits; try go_simp)); (try (rw [if_pos (by omega)]; try go_simp)); (first | done | (fail) | (with_reducible rfl) | exact rfl)))
  simp only [Act.put, List.setIfInBounds_toArray, List.set_cons_zero, List.set_cons_succ]
  refine WT_yes 10 rfl (by kernel_rfl) (fun _ _ _ _ _ h => h) (by rfl) ?_; apply Exists.intro; refine ⟨fun w1 hb1 => ?_, ?_⟩; (focus ((skip; have hb1 := Lib.hid hb1; go_simp); (try (go_bits; try go_simp)); (try (rw [if_pos (by omega)]; try go_simp)); (first | done | (fail) | (with_reducible rfl) | exact rfl)))
  simp only [Act.put, List.setIfInBounds_toArray, List.set_cons_zero, List.set_cons_succ]
  refine WT_yes 11 rfl (by kernel_rfl) (fun _ _ _ _ _ h => h) (by rfl) ?_; apply Exists.intro; refine ⟨fun w1 hb1 => ?_, ?_⟩; (focus ((skip; have hb1 := Lib.hid hb1; go_simp); (try (go_bits; try go_simp)); (try (rw [if_pos (by omega)]; try go_simp)); (first | done | (fail) | (with_reducible rfl) | exact rfl)))
  simp only [Act.put, List.setIfInBounds_toArray, List.set_cons_zero, List.set_cons_succ]
  refine WT_done (by kernel_rfl) ?_
  replace HB := Lib.hid (bThen HB.out T.out)
  replace K3 := Lib.hid (K3.out.to T.out)
  replace K4 := Lib.hid (K4.out.to T.out)
  replace K5 := Lib.hid (K5.out.to T.out)
  clear T
  have HIS := Lib.hid (fun W s h => lIn_any S s aS cS W (by have := HNS.out; omega) h)
  have HCSS := Lib.hid (fun W h => rCopyStates_any S aS cS W (by have := HNS.out; omega) h)
  rw [HNS.out] at HIS HCSS
  go_wp2_with fail
  refine wp_region_tree (by kernel_rfl) (fun wd hwd => ?_)
  have T := Lib.hid hwd
  clear hwd
  refine WT_yes 0 rfl (by kernel_rfl) (fun _ _ _ _ _ h => h) (by rfl) ?_; apply Exists.intro; refine ⟨fun w1 hb1 => ?_, ?_⟩; (focus (((obtain ⟨-, k3, -⟩ := K3.out.to (T.out.trans hb1)); have hb1 := Lib.hid hb1; go_simp); (try (go_bits; try go_simp)); (try (rw [if_pos (by omega)]; try go_simp)); (first | done | (fail) | (with_reducible rfl) | exact rfl)))
  simp only [Act.put, List.setIfInBounds_toArray, List.set_cons_zero, List.set_cons_succ]
  refine WT_yes 2 rfl (by kernel_rfl) (fun _ _ _ _ _ h => h) (by rfl) ?_; apply Exists.intro; refine ⟨fun w1 hb1 => ?_, ?_⟩; (focus (((obtain ⟨-, k4, -⟩ := K4.out.to (T.out.trans hb1)); have hb1 := Lib.hid hb1; go_simp); (try (go_bits; try go_simp)); (try (rw [if_pos (by omega)]; try go_simp)); (first | done | (fail) | (with_reducible rfl) | exact rfl)))
  simp only [Act.put, List.setIfInBounds_toArray, List.set_cons_zero, List.set_cons_succ]
  refine WT_yes 3 rfl (by kernel_rfl) (fun _ _ _ _ _ h => h) (by rfl) ?_; apply Exists.intro; refine ⟨fun w1 hb1 => ?_, ?_⟩; (focus (((obtain ⟨-, k4, -⟩ := K4.out.to (T.out.trans hb1)); have hb1 := Lib.hid hb1; go_simp); (try (go_bits; try go_simp)); (try (rw [if_pos (by omega)]; try go_simp)); (first | done | (fail) | (with_reducible rfl) | exact rfl)))
  simp only [Act.put, List.setIfInBounds_toArray, List.set_cons_zero, List.set_cons_succ]
  refine WT_yes 4 rfl (by kernel_rfl) (fun _ _ _ _ _ h => h) (by rfl) ?_; apply Exists.intro; refine ⟨fun w1 hb1 => ?_, ?_⟩; (focus (((obtain ⟨-, k4, -⟩ := K4.out.to (T.out.trans hb1)); have hb1 := Lib.hid hb1; go_simp); (try (go_bits; try go_simp)); (try (rw [if_pos (by omega)]; try go_simp)); (first | done | (fail) | (with_reducible rfl) | exact rfl)))
  simp only [Act.put, List.setIfInBounds_toArray, List.set_cons_zero, List.set_cons_succ]
  refine WT_yes 5 rfl (by kernel_rfl) (fun _ _ _ _ _ h => h) (by rfl) ?_; apply Exists.intro; refine ⟨fun w1 hb1 => ?_, ?_⟩; (focus (((obtain ⟨-, k4, -⟩ := K4.out.to (T.out.trans hb1)); have hb1 := Lib.hid hb1; go_simp); (try (go_bits; try go_simp)); (try (rw [if_pos (by omega)]; try go_simp)); (first | done | (fail) | (with_reducible rfl) | exact rfl)))
  simp only [Act.put, List.setIfInBounds_toArray, List.set_cons_zero, List.set_cons_succ]
  refine WT_yes 6 rfl (by kernel_rfl) (fun _ _ _ _ _ h => h) (by rfl) ?_; apply Exists.intro; refine ⟨fun w1 hb1 => ?_, ?_⟩; (focus ((skip; have hb1 := Lib.hid hb1; go_simp); (try (go_bits; try go_simp)); (try (rw [if_pos (by omega)]; try go_simp)); (first | done | (fail) | (with_reducible rfl) | exact rfl)))
  simp only [Act.put, List.setIfInBounds_toArray, List.set_cons_zero, List.set_cons_succ]
  refine WT_one 1 rfl (by kernel_rfl) ?_
  unfold stepT
  go_wp2_with fail
  refine (HCPY.out _ (bThen HB.out T.out)).mono ?_
  rintro e g3 ⟨a1, c1, rfl, -, hr1, hb, -⟩
  have HR1 := Lib.hid hr1
  clear hr1
  unfold plC
  rw [HM.out] at HR1 ⊢
  have hbd := Lib.hid (hb.mono T.out.size)
  replace T := Lib.hid (bThen T.out hb)
  clear hb
  go_wp2_with fail
  refine ⟨hbd.out, ?_⟩
  clear hbd
  refine WT_one 7 rfl (by kernel_rfl) ?_
  unfold stepT
  go_wp2_with fail
  refine (HCSS.out _ (HRS.out.to T.out)).mono ?_
  rintro e g4 ⟨a2, c2, rfl, -, hr2, hb, -⟩
  have HR2 := Lib.hid hr2
  clear hr2
  replace HR1 := Lib.hid (HR1.out.to hb)
  have hbd := Lib.hid (hb.mono T.out.size)
  replace T := Lib.hid (bThen T.out hb)
  clear hb
  go_wp2_with fail
  refine ⟨hbd.out, ?_⟩
  clear hbd
  refine WT_one 8 rfl (by kernel_rfl) ?_
  unfold stepT
  go_wp2_with fail
  refine (HC0.out _ _ _ _ _ HR1.out HR2.out).mono ?_
  rintro e g5 ⟨rfl, hb⟩
  clear HR1 HR2
  have hbd := Lib.hid (hb.mono T.out.size)
  replace T := Lib.hid (bThen T.out hb)
  clear hb
  go_wp2_with fail
  refine ⟨hbd.out, ?_⟩
  clear hbd
  refine WT_yes 9 rfl (by kernel_rfl) (fun _ _ _ _ _ h => h) (by rfl) ?_; apply Exists.intro; refine ⟨fun w1 hb1 => ?_, ?_⟩; (focus ((skip; have hb1 := Lib.hid hb1; go_simp); (try (go_bits; try go_simp)); (try (rw [if_pos (by omega)]; try go_simp)); (first | done | (fail) | (with_reducible rfl) | exact rfl)))
  simp only [Act.put, List.setIfInBounds_toArray, List.set_cons_zero, List.set_cons_succ]
  refine WT_yes 10 rfl (by kernel_rfl) (fun _ _ _ _ _ h => h) (by rfl) ?_; apply Exists.intro; refine ⟨fun w1 hb1 => ?_, ?_⟩; (focus ((skip; have hb1 := Lib.hid hb1; go_simp); (try (go_bits; try go_simp)); (try (rw [if_pos (by omega)]; try go_simp)); (first | done | (fail) | (with_reducible rfl) | exact rfl)))
  simp only [Act.put, List.setIfInBounds_toArray, List.set_cons_zero, List.set_cons_succ]
  refine WT_yes 11 rfl (by kernel_rfl) (fun _ _ _ _ _ h => h) (by rfl) ?_; apply Exists.intro; refine ⟨fun w1 hb1 => ?_, ?_⟩; (focus ((skip; have hb1 := Lib.hid hb1; go_simp); (try (go_bits; try go_simp)); (try (rw [if_pos (by omega)]; try go_simp)); (first | done | (fail) | (with_reducible rfl) | exact rfl)))
  simp only [Act.put, List.setIfInBounds_toArray, List.set_cons_zero, List.set_cons_succ]
  refine WT_yes 12 rfl (by kernel_rfl) (fun _ _ _ _ _ h => h) (by rfl) ?_; apply Exists.intro; refine ⟨fun w1 hb1 => ?_, ?_⟩; (focus ((skip; have hb1 := Lib.hid hb1; go_simp); (try (go_bits; try go_simp)); (try (rw [if_pos (by omega)]; try go_simp)); (first | done | (fail) | (with_reducible rfl) | exact rfl)))
  simp only [Act.put, List.setIfInBounds_toArray, List.set_cons_zero, List.set_cons_succ]
  refine WT_yes 13 rfl (by kernel_rfl) (fun _ _ _ _ _ h => h) (by rfl) ?_; apply Exists.intro; refine ⟨fun w1 hb1 => ?_, ?_⟩; (focus ((skip; have hb1 := Lib.hid hb1; go_simp); (try (go_bits; try go_simp)); (try (rw [if_pos (by omega)]; try go_simp)); (first | done | (fail) | (with_reducible rfl) | exact rfl)))
  simp only [Act.put, List.setIfInBounds_toArray, List.set_cons_zero, List.set_cons_succ]
  refine WT_done (by kernel_rfl) ?_
  replace HB := Lib.hid (bThen HB.out T.out)
  replace K3 := Lib.hid (K3.out.to T.out)
  replace K4 := Lib.hid (K4.out.to T.out)
  replace K5 := Lib.hid (K5.out.to T.out)
  replace HRS := Lib.hid (HRS.out.to T.out)
  clear T
  clear HSF HC0 HCSS
  go_wp2_with fail
  refine wp_region_tree (by kernel_rfl) (fun wd hwd => ?_)
  have T := Lib.hid hwd
  clear hwd
  refine WT_yes 0 rfl (by kernel_rfl) (fun _ _ _ _ _ h => h) (by rfl) ?_; apply Exists.intro; refine ⟨fun w1 hb1 => ?_, ?_⟩; (focus (((obtain ⟨-, k3, -⟩ := K3.out.to (T.out.trans hb1)); have hb1 := Lib.hid hb1; go_simp); (try (go_bits; try go_simp)); (try (rw [if_pos (by omega)]; try go_simp)); (first | done | (fail) | (with_reducible rfl) | exact rfl)))
  simp only [Act.put, List.setIfInBounds_toArray, List.set_cons_zero, List.set_cons_succ]
  refine WT_yes 2 rfl (by kernel_rfl) (fun _ _ _ _ _ h => h) (by rfl) ?_; apply Exists.intro; refine ⟨fun w1 hb1 => ?_, ?_⟩; (focus (((obtain ⟨-, k4, -⟩ := K4.out.to (T.out.trans hb1)); have hb1 := Lib.hid hb1; go_simp); (try (go_bits; try go_simp)); (try (rw [if_pos (by omega)]; try go_simp)); (first | done | (fail) | (with_reducible rfl) | exact rfl)))
  simp only [Act.put, List.setIfInBounds_toArray, List.set_cons_zero, List.set_cons_succ]
  refine WT_yes 3 rfl (by kernel_rfl) (fun _ _ _ _ _ h => h) (by rfl) ?_; apply Exists.intro; refine ⟨fun w1 hb1 => ?_, ?_⟩; (focus (((obtain ⟨-, k4, -⟩ := K4.out.to (T.out.trans hb1)); have hb1 := Lib.hid hb1; go_simp); (try (go_bits; try go_simp)); (try (rw [if_pos (by omega)]; try go_simp)); (first | done | (fail) | (with_reducible rfl) | exact rfl)))
  simp only [Act.put, List.setIfInBounds_toArray, List.set_cons_zero, List.set_cons_succ]
  refine WT_yes 4 rfl (by kernel_rfl) (fun _ _ _ _ _ h => h) (by rfl) ?_; apply Exists.intro; refine ⟨fun w1 hb1 => ?_, ?_⟩; (focus (((obtain ⟨-, k4, -⟩ := K4.out.to (T.out.trans hb1)); have hb1 := Lib.hid hb1; go_simp); (try (go_bits; try go_simp)); (try (rw [if_pos (by omega)]; try go_simp)); (first | done | (fail) | (with_reducible rfl) | exact rfl)))
  simp only [Act.put, List.setIfInBounds_toArray, List.set_cons_zero, List.set_cons_succ]
  refine WT_yes 5 rfl (by kernel_rfl) (fun _ _ _ _ _ h => h) (by rfl) ?_; apply Exists.intro; refine ⟨fun w1 hb1 => ?_, ?_⟩; (focus (((obtain ⟨-, k4, -⟩ := K4.out.to (T.out.trans hb1)); have hb1 := Lib.hid hb1; go_simp); (try (go_bits; try go_simp)); (try (rw [if_pos (by omega)]; try go_simp)); (first | done | (fail) | (with_reducible rfl) | exact rfl)))
  simp only [Act.put, List.setIfInBounds_toArray, List.set_cons_zero, List.set_cons_succ]
  refine WT_yes 6 rfl (by kernel_rfl) (fun _ _ _ _ _ h => h) (by rfl) ?_; apply Exists.intro; refine ⟨fun w1 hb1 => ?_, ?_⟩; (focus (((obtain ⟨-, k5, -⟩ := K5.out.to (T.out.trans hb1)); have hb1 := Lib.hid hb1; go_simp); (try (go_bits; try go_simp)); (try (rw [if_pos (by omega)]; try go_simp)); (first | done | (fail) | (with_reducible rfl) | exact rfl)))
  simp only [Act.put, List.setIfInBounds_toArray, List.set_cons_zero, List.set_cons_succ]
  refine WT_yes 7 rfl (by kernel_rfl) (fun _ _ _ _ _ h => h) (by rfl) ?_; apply Exists.intro; refine ⟨fun w1 hb1 => ?_, ?_⟩; (focus (((obtain ⟨-, k5, -⟩ := K5.out.to (T.out.trans hb1)); have hb1 := Lib.hid hb1; go_simp); (try (go_bits; try go_simp)); (try (rw [if_pos (by omega)]; try go_simp)); (first | done | (fail) | (with_reducible rfl) | exact rfl)))
  simp only [Act.put, List.setIfInBounds_toArray, List.set_cons_zero, List.set_cons_succ]
  refine WT_one 1 rfl (by kernel_rfl) ?_
  unfold stepT
  go_wp2_with fail
  refine (HCPY.out _ (bThen HB.out T.out)).mono ?_
  rintro e g6 ⟨a1, c1, rfl, -, hr1, hb, -⟩
  have HR1 := Lib.hid hr1
  clear hr1
  unfold plC
  rw [HM.out] at HR1 ⊢
  have hbd := Lib.hid (hb.mono T.out.size)
  replace T := Lib.hid (bThen T.out hb)
  clear hb
  go_wp2_with fail
  refine ⟨hbd.out, ?_⟩
  clear hbd
  refine WT_one 8 rfl (by kernel_rfl) ?_
  unfold stepT
  go_wp2_with fail
  refine (HCL.out _ (bThen HB.out T.out)).mono ?_
  rintro e g7 ⟨a2, c2, rfl, -, hr2, hb, -⟩
  have HR2 := Lib.hid hr2
  clear hr2
  replace HR1 := Lib.hid (HR1.out.to hb)
  have hbd := Lib.hid (hb.mono T.out.size)
  replace T := Lib.hid (bThen T.out hb)
  clear hb
  go_wp2_with fail
  refine ⟨hbd.out, ?_⟩
  clear hbd
  refine WT_one 9 rfl (by kernel_rfl) ?_
  unfold stepT
  go_wp2_with fail
  refine (HC1.out _ _ _ _ _ HR1.out HR2.out).mono ?_
  rintro e g8 ⟨rfl, hb⟩
  clear HR1 HR2
  have hbd := Lib.hid (hb.mono T.out.size)
  replace T := Lib.hid (bThen T.out hb)
  clear hb
  go_wp2_with fail
  refine ⟨hbd.out, ?_⟩
  clear hbd
  refine WT_yes 10 rfl (by kernel_rfl) (fun _ _ _ _ _ h => h) (by rfl) ?_; apply Exists.intro; refine ⟨fun w1 hb1 => ?_, ?_⟩; (focus ((skip; have hb1 := Lib.hid hb1; go_simp); (try (go_bits; try go_simp)); (try (rw [if_pos (by omega)]; try go_simp)); (first | done | (fail) | (with_reducible rfl) | exact rfl)))
  simp only [Act.put, List.setIfInBounds_toArray, List.set_cons_zero, List.set_cons_succ]
  refine WT_yes 11 rfl (by kernel_rfl) (fun _ _ _ _ _ h => h) (by rfl) ?_; apply Exists.intro; refine ⟨fun w1 hb1 => ?_, ?_⟩; (focus ((skip; have hb1 := Lib.hid hb1; go_simp); (try (go_bits; try go_simp)); (try (rw [if_pos (by omega)]; try go_simp)); (first | done | (fail) | (with_reducible rfl) | exact rfl)))
  simp only [Act.put, List.setIfInBounds_toArray, List.set_cons_zero, List.set_cons_succ]
  refine WT_yes 12 rfl (by kernel_rfl) (fun _ _ _ _ _ h => h) (by rfl) ?_; apply Exists.intro; refine ⟨fun w1 hb1 => ?_, ?_⟩; (focus ((skip; have hb1 := Lib.hid hb1; go_simp); (try (go_bits; try go_simp)); (try (rw [if_pos (by omega)]; try go_simp)); (first | done | (fail) | (with_reducible rfl) | exact rfl)))
  simp only [Act.put, List.setIfInBounds_toArray, List.set_cons_zero, List.set_cons_succ]
  refine WT_yes 13 rfl (by kernel_rfl) (fun _ _ _ _ _ h => h) (by rfl) ?_; apply Exists.intro; refine ⟨fun w1 hb1 => ?_, ?_⟩; (focus ((skip; have hb1 := Lib.hid hb1; go_simp); (try (go_bits; try go_simp)); (try (rw [if_pos (by omega)]; try go_simp)); (first | done | (fail) | (with_reducible rfl) | exact rfl)))
  simp only [Act.put, List.setIfInBounds_toArray, List.set_cons_zero, List.set_cons_succ]
  refine WT_yes 14 rfl (by kernel_rfl) (fun _ _ _ _ _ h => h) (by rfl) ?_; apply Exists.intro; refine ⟨fun w1 hb1 => ?_, ?_⟩; (focus ((skip; have hb1 := Lib.hid hb1; go_simp); (try (go_bits; try go_simp)); (try (rw [if_pos (by omega)]; try go_simp)); (first | done | (fail) | (with_reducible rfl) | exact rfl)))
  simp only [Act.put, List.setIfInBounds_toArray, List.set_cons_zero, List.set_cons_succ]
  refine WT_done (by kernel_rfl) ?_
  replace HB := Lib.hid (bThen HB.out T.out)
  replace K3 := Lib.hid (K3.out.to T.out)
  replace K4 := Lib.hid (K4.out.to T.out)
  replace K5 := Lib.hid (K5.out.to T.out)
  replace HRS := Lib.hid (HRS.out.to T.out)
  clear T
  clear HC1 HCL
  replace HLR := Lib.hid (HLR.out.to HB.out)
  replace HYR := Lib.hid (HYR.out.to HB.out)
  go_upto_if 120 with (fail)
  obtain ⟨tb, htb⟩ : ∃ b, (x2 == 0) = b := ⟨_, rfl⟩
  rw [htb]
  go_cut [13] from 120 to 135 (fun _ wc => Hid (Below g8.heap.size g8 wc))
  case first =>
    cases tb
    · go_wp2_with fail
      go_meet
      case rel => exact Lib.hid (Below.refl _ _)
    have hx0 : x2 = 0 := by simpa using htb
    replace HIN := Lib.hid (HIN.out hx0)
    clear hx0 htb
    go_wp2_with fail
    go_loopw [13] (fun s13 wr => ∃ k : Nat, s13 = .int .i64 k ∧ k ≤ nL ∧ Hid (Below g8.heap.size g8 wr)) (fun s13 _ => nL - (intOf s13).toNat)
    case atStart => exact ⟨0, rfl, Nat.zero_le _, Lib.hid (bSelf _)⟩
    case round =>
      obtain ⟨k, rfl, hk, HR0⟩ := hrel
      obtain ⟨-, k5, -⟩ := K5.out.to HR0.out
      by_cases hlt : k < nL
      · obtain ⟨bb, off, rfl, hbb, hcc⟩ := (HLR.out.to HR0.out).at (k := k * 2) (by omega)
        obtain ⟨⟨s1, s2⟩, hs⟩ : ∃ s, sg L k = s := ⟨_, rfl⟩
        have e0 : wr.cell? ⟨bb, off + k * 2, none⟩ = some (.int .i64 s1) := by have := hcc (k * 2) (by omega); rw [osts0, hs] at this; exact this
        have e1 : wr.cell? ⟨bb, off + k * 2 + 1, none⟩ = some (.bool s2) := by have := hcc (k * 2 + 1) (by omega); rw [osts1, hs] at this; exact this
        have hin := HIN.out k hlt
        rw [hs] at hin
        have HI1 := Lib.hid (fun W h => HIS.out W (s1, s2) h)
        rw [hin] at HI1
        dsimp only at HI1
        clear hin hs hcc HIN HIS
        go_wp2_with fail
        refine (HI1.out _ ((HRS.out.to HR0.out))).mono ?_
        rintro e wq ⟨rfl, hb⟩
        replace HR0 := Lib.hid (bThen HR0.out hb)
        clear hb e0 e1 k5 HI1
        go_wp2_with fail
        go_roundw
        case rel => exact ⟨k + 1, by go_num, by omega, HR0⟩
        case measure => simp [intOf]; omega
      · obtain rfl : nL = k := by omega
        go_wp2_with fail
        go_meet
        case rel => exact HR0
  obtain ⟨z0, hz0⟩ : ∃ wo, wo = wc := ⟨_, rfl⟩
  subst hz0
  have hb := hcut.out
  replace K3 := Lib.hid (K3.out.to hb)
  replace K4 := Lib.hid (K4.out.to hb)
  replace K5 := Lib.hid (K5.out.to hb)
  replace HB := Lib.hid (bThen HB.out hb)
  replace HRS := Lib.hid (HRS.out.to hb)
  replace HYR := Lib.hid (HYR.out.to hb)
  clear hb hcut HIN HLR
  by_cases hn0 : nS = 0
  · subst hn0
    go_wp2_with fail
    go_ret
    exact ⟨rfl, HB.out⟩
  have hm0 := Int.emod_nonneg wh (show (nS : Int) ≠ 0 by omega)
  have hm1 := Int.emod_lt_of_pos wh (show 0 < (nS : Int) by omega)
  obtain ⟨i, hi'⟩ : ∃ i : Nat, wh % (nS : Int) = (i : Int) := ⟨(wh % (nS : Int)).toNat, by omega⟩
  rw [hi'] at hm0 hm1
  have hin : i < nS := by omega
  have HMD : Hid (∀ W, Calls Tryz.prog 41 #[.int .i64 wh, .int .i64 (nS : Int)] W fun e w' => e = .returned (.int .i64 (i : Int)) ∧ W = w') := Lib.hid (fun W => by have := Mod_any wh (nS : Int) W (by omega) (by omega); rw [hi'] at this; exact this)
  clear hi' hm0 hm1
  obtain ⟨bS, oS, rfl, hbS, hcS'⟩ := HRS.out.at (k := i * 2) (by omega)
  obtain ⟨⟨s1, s2⟩, hs⟩ : ∃ s, sg S i = s := ⟨_, rfl⟩
  have e0 : z0.cell? ⟨bS, oS + i * 2, none⟩ = some (.int .i64 s1) := by have := hcS' (i * 2) (by omega); rw [osts0, hs] at this; exact this
  have e1 : z0.cell? ⟨bS, oS + i * 2 + 1, none⟩ = some (.bool s2) := by have := hcS' (i * 2 + 1) (by omega); rw [osts1, hs] at this; exact this
  have hiS : i < S.length := by have := HNS.out; omega
  have hst := SF.out.st i hiS
  have hpm := SF.out.prm i hiS dn (by omega)
  have hrn := SF.out.run ys i hiS dn (by omega)
  rw [hs] at hst hpm hrn
  have HS1 := Lib.hid (fun W hb => HSE.out W (s1, s2) hb)
  rw [hst] at HS1
  have HP1 := Lib.hid (fun W a1 c1 a2 c2 h1 h2 => HIP.out W (s1, s2) dn a1 c1 a2 c2 h10 (by omega) h1 h2)
  rw [hpm.1, hpm.2, cnL_len] at HP1
  have HR1' := Lib.hid (fun W a1 c1 a2 c2 h1 h2 => HRN.out W (s1, s2) dn a1 c1 a2 c2 h10 (by omega) h1 h2)
  unfold SPost at HR1'
  rw [hrn.1, hrn.2.1, dmL_len] at HR1'
  have HLI := Lib.hid hrn.2.2
  obtain ⟨rr, hrr⟩ : ∃ x, runO p (s1, s2) (dmL (lo, hi) ys dn) = x := ⟨_, rfl⟩
  rw [hrr] at HR1' HLI
  dsimp only at HS1 HP1 HR1' HLI
  clear hs hst hpm hrn hrr hcS' HSE HIP HRN hiS
  obtain ⟨-, k5, -⟩ := K5.out
  have k3' : ∀ (o : Obj) (j : Nat), (z0.alloc o).cell? ⟨w.heap.size, j, none⟩ = #[Value.slice a m cap, .int .i64 p.pump, .int .i64 p.on, .int .i64 p.off][j]? := fun o j => (K3.out.alloc o).2.1 j
  go_wp2_with (go_at_call 41; refine (HMD.out _).mono ?_; rintro e w' ⟨rfl, rfl⟩)
  clear k3' k5 e0 e1
  obtain ⟨z1, hz1⟩ : ∃ W, z0.alloc (.cells #[.int .i64 s1, .bool s2] 46) = W := ⟨_, rfl⟩
  rw [hz1]
  have K14 : Hid (Blk z1 z0.heap.size #[.int .i64 s1, .bool s2]) := by subst hz1; exact Lib.hid (Blk.new _ _ _)
  have hb : Below z0.heap.size z0 z1 := by subst hz1; exact bAlloc (bSelf _) _
  replace K3 := Lib.hid (K3.out.to hb)
  replace K4 := Lib.hid (K4.out.to hb)
  replace K5 := Lib.hid (K5.out.to hb)
  replace HB := Lib.hid (bThen HB.out hb)
  replace HRS := Lib.hid (HRS.out.to hb)
  replace HYR := Lib.hid (HYR.out.to hb)
  clear hz1 hb HMD hbS
  obtain ⟨B14, hB14⟩ : ∃ b, z0.heap.size = b := ⟨_, rfl⟩
  rw [hB14] at K14 ⊢
  clear hB14
  refine (HS1.out _ HB.out).mono ?_
  rintro e z2 ⟨rfl, hb⟩
  replace K3 := Lib.hid (K3.out.to hb)
  replace K4 := Lib.hid (K4.out.to hb)
  replace K5 := Lib.hid (K5.out.to hb)
  replace K14 := Lib.hid (K14.out.to hb)
  replace HB := Lib.hid (bThen HB.out hb)
  replace HRS := Lib.hid (HRS.out.to hb)
  replace HYR := Lib.hid (HYR.out.to hb)
  clear hb HS1
  go_wp2_with fail
  go_loopw [15, 16, 17] (fun s15 s16 s17 wr => ∃ (k : Nat) (va : Option Addr) (vc : Nat) (vb : Option Addr) (vd : Nat), s15 = .slice va k vc ∧ s16 = .slice vb k vd ∧ s17 = .int .i64 k ∧ k ≤ dn ∧ Hid (TwR z2.heap.size wr (.slice va k vc) (.slice vb k vd) k k (fcells (cnL (lo, hi) k)) ((dmL (lo, hi) ys k).map fun z => Value.int .i64 z)) ∧ Hid (Below z2.heap.size z2 wr)) (fun _ _ s17 _ => dn - (intOf s17).toNat)
  case atStart => exact ⟨0, none, 0, none, 0, rfl, rfl, rfl, Nat.zero_le _, Lib.hid ⟨Nat.le_refl _, ⟨by simp [cnL, fcells], .inl ⟨rfl, rfl⟩⟩, ⟨by simp [dmL], .inl ⟨rfl, rfl⟩⟩, fun g e => by cases e⟩, Lib.hid (bSelf z2)⟩
  case round =>
    obtain ⟨k, va, vc, vb, vd, rfl, rfl, rfl, hk, HT, HR0⟩ := hrel
    obtain ⟨-, k5, -⟩ := K5.out.to HR0.out
    obtain ⟨-, k4, -⟩ := K4.out.to HR0.out
    by_cases hlt : k < dn
    · obtain ⟨bb, off, rfl, hbb, hcc⟩ := (HYR.out.to HR0.out).at (k := k) hlt
      obtain ⟨x, hx⟩ : ∃ x, gi ys k = x := ⟨_, rfl⟩
      have X0 : Hid (wr.cell? ⟨bb, off + k, none⟩ = some (.int .i64 x)) := Lib.hid (by rw [hcc k hlt]; unfold ints; rw [hx])
      obtain ⟨md, hmd⟩ : ∃ m, x % (hi - lo + 1) = m := ⟨_, rfl⟩
      have hm0 := Int.emod_nonneg x (show hi - lo + 1 ≠ 0 by omega)
      have hm1 := Int.emod_lt_of_pos x (show 0 < hi - lo + 1 by omega)
      rw [hmd] at hm0 hm1
      have HMD : Hid (∀ W, Calls Tryz.prog 41 #[.int .i64 x, .int .i64 (hi - lo + 1)] W fun e w' => e = .returned (.int .i64 md) ∧ W = w') := Lib.hid (fun W => by have := Mod_any x (hi - lo + 1) W (by omega) (by omega); rw [hmd] at this; exact this)
      have HOD : Hid (lo + gi ys k % (hi - lo + 1) = lo + md) := Lib.hid (by rw [hx, hmd])
      have HGX := Lib.hid hx
      clear hcc hx hmd
      have HROW := Lib.hid (HT.out.to (bAlloc (bSelf _) (.cells #[.int .i64 lo, .int .i64 hi] 25)))
      have HNN := Lib.hid (Blk.new wr #[.int .i64 lo, .int .i64 hi] 25).news
      have hs1 : z2.heap.size ≤ wr.heap.size := HT.out.lt
      go_wp2_with (at_builtin; go_loud (refine wpList_app z2.heap.size rtRg rfl (.tmp 158) (.tmp 161) rfl _ k _ rfl HROW.out.r1 ⟨wr.heap.size, 0, none⟩ 1 1 [.int .i64 lo, .int .i64 hi] rfl rfl (by simpa using HNN.out) (ones [lo, hi]) (by unfold maxLen; omega) (by omega) (by simp; omega) ?_; intro v' w7 hown' hgrow _ hwhere; obtain ⟨va', vc', rfl⟩ := ownsRow_sl hown'; have HT7 := Lib.hid (HROW.out.app1 hown' hgrow hwhere); clear hown' hgrow hwhere))
      have HB7 : Hid (Below z2.heap.size wr w7) := Lib.hid (((Below.refl _ _).alloc hs1 _).trans HT7.out.2)
      have HR7 := Lib.hid (HR0.out.trans HB7.out)
      have HT8 := Lib.hid HT7.out.1
      obtain ⟨b2, o2, e2, hbz, hc2⟩ := HYR.out.at (k := k) hlt
      cases e2
      have XZ : Hid (z2.cell? ⟨bb, off + k, none⟩ = some (.int .i64 x)) := Lib.hid (by rw [hc2 k hlt]; unfold ints; rw [HGX.out])
      clear HROW HNN HT7 X0 hs1 hbb HT k4 k5 hc2
      refine wp_region_graph (fun u u' => Below z2.heap.size u u') ⟨fun _ => Below.refl _ _, fun h h' => h.trans h'⟩ (by kernel_rfl) (fun wi hwe hwi => ?_)
      replace HT8 := Lib.hid (HT8.out.to hwi)
      have HR8 : Hid (Below z2.heap.size z2 wi) := Lib.hid (HR7.out.trans (hwi.mono HR7.out.size))
      clear hwe hwi HR7 HB7
      refine WG_yes 0 rfl (by kernel_rfl) (fun _ _ _ _ _ h => h) (by rfl) ?_; apply Exists.intro; refine ⟨fun w1 hb1 => ?_, ?_⟩; (focus ((skip; have hb1 := Lib.hid hb1; go_simp); (try (go_bits; try go_simp)); (try (rw [if_pos (by omega)]; try go_simp)); (first | done | (fail) | (with_reducible rfl) | exact rfl)))
      simp only [Act.put, List.setIfInBounds_toArray, List.set_cons_zero, List.set_cons_succ]
      refine WG_yes 1 rfl (by kernel_rfl) (fun _ _ _ _ _ h => h) (by rfl) ?_; apply Exists.intro; refine ⟨fun w1 hb1 => ?_, ?_⟩; (focus (((obtain ⟨-, k5, -⟩ := K5.out.to (HR8.out.trans hb1); obtain ⟨-, k4, -⟩ := K4.out.to (HR8.out.trans hb1); have x0 := ((HR8.out.trans hb1).cell (p := ⟨bb, off + k, none⟩) hbz).trans XZ.out); have hb1 := Lib.hid hb1; go_simp); (try (go_bits; try go_simp)); (try (rw [if_pos (by omega)]; try go_simp)); (first | done | (fail) | (with_reducible rfl) | exact rfl)))
      simp only [Act.put, List.setIfInBounds_toArray, List.set_cons_zero, List.set_cons_succ]
      refine WG_yes 2 rfl (by kernel_rfl) (fun _ _ _ _ _ h => h) (by rfl) ?_; apply Exists.intro; refine ⟨fun w1 hb1 => ?_, ?_⟩; (focus (((obtain ⟨-, k5, -⟩ := K5.out.to (HR8.out.trans hb1); obtain ⟨-, k4, -⟩ := K4.out.to (HR8.out.trans hb1); have x0 := ((HR8.out.trans hb1).cell (p := ⟨bb, off + k, none⟩) hbz).trans XZ.out); have hb1 := Lib.hid hb1; go_simp); (try (go_bits; try go_simp)); (try (rw [if_pos (by omega)]; try go_simp)); (first | done | (fail) | (with_reducible rfl) | exact rfl)))
      simp only [Act.put, List.setIfInBounds_toArray, List.set_cons_zero, List.set_cons_succ]
      refine WG_yes 3 rfl (by kernel_rfl) (fun _ _ _ _ _ h => h) (by rfl) ?_; apply Exists.intro; refine ⟨fun w1 hb1 => ?_, ?_⟩; (focus (((obtain ⟨-, k5, -⟩ := K5.out.to (HR8.out.trans hb1); obtain ⟨-, k4, -⟩ := K4.out.to (HR8.out.trans hb1); have x0 := ((HR8.out.trans hb1).cell (p := ⟨bb, off + k, none⟩) hbz).trans XZ.out); have hb1 := Lib.hid hb1; go_simp); (try (go_bits; try go_simp)); (try (rw [if_pos (by omega)]; try go_simp)); (first | done | (fail) | (with_reducible rfl) | exact rfl)))
      simp only [Act.put, List.setIfInBounds_toArray, List.set_cons_zero, List.set_cons_succ]
      refine WG_yes 4 rfl (by kernel_rfl) (fun _ _ _ _ _ h => h) (by rfl) ?_; apply Exists.intro; refine ⟨fun w1 hb1 => ?_, ?_⟩; (focus (((obtain ⟨-, k5, -⟩ := K5.out.to (HR8.out.trans hb1); obtain ⟨-, k4, -⟩ := K4.out.to (HR8.out.trans hb1); have x0 := ((HR8.out.trans hb1).cell (p := ⟨bb, off + k, none⟩) hbz).trans XZ.out); have hb1 := Lib.hid hb1; go_simp); (try (go_bits; try go_simp)); (try (rw [if_pos (by omega)]; try go_simp)); (first | done | (fail) | (with_reducible rfl) | exact rfl)))
      simp only [Act.put, List.setIfInBounds_toArray, List.set_cons_zero, List.set_cons_succ]
      refine WG_yes 5 rfl (by kernel_rfl) (fun _ _ _ _ _ h => h) (by rfl) ?_; apply Exists.intro; refine ⟨fun w1 hb1 => ?_, ?_⟩; (focus (((obtain ⟨-, k5, -⟩ := K5.out.to (HR8.out.trans hb1); obtain ⟨-, k4, -⟩ := K4.out.to (HR8.out.trans hb1); have x0 := ((HR8.out.trans hb1).cell (p := ⟨bb, off + k, none⟩) hbz).trans XZ.out); have hb1 := Lib.hid hb1; go_simp); (try (go_bits; try go_simp)); (try (rw [if_pos (by omega)]; try go_simp)); (first | done | (fail) | (with_reducible rfl) | exact rfl)))
      simp only [Act.put, List.setIfInBounds_toArray, List.set_cons_zero, List.set_cons_succ]
      refine WG_yes 6 rfl (by kernel_rfl) (fun _ _ _ _ _ h => h) (by rfl) ?_; apply Exists.intro; refine ⟨fun w1 hb1 => ?_, ?_⟩; (focus ((skip; have hb1 := Lib.hid hb1; go_simp); (try (go_bits; try go_simp)); (try (rw [if_pos (by omega)]; try go_simp)); (first | done | (fail) | (with_reducible rfl) | exact rfl)))
      simp only [Act.put, List.setIfInBounds_toArray, List.set_cons_zero, List.set_cons_succ]
      refine WG_yes 7 rfl (by kernel_rfl) (fun _ _ _ _ _ h => h) (by rfl) ?_; apply Exists.intro; refine ⟨fun w1 hb1 => ?_, ?_⟩; (focus (((obtain ⟨-, k5, -⟩ := K5.out.to (HR8.out.trans hb1); obtain ⟨-, k4, -⟩ := K4.out.to (HR8.out.trans hb1); have x0 := ((HR8.out.trans hb1).cell (p := ⟨bb, off + k, none⟩) hbz).trans XZ.out); have hb1 := Lib.hid hb1; go_simp); (try (go_bits; try go_simp)); (try (rw [if_pos (by omega)]; try go_simp)); (first | done | (fail) | (with_reducible rfl) | exact rfl)))
      simp only [Act.put, List.setIfInBounds_toArray, List.set_cons_zero, List.set_cons_succ]
      refine WG_yes 8 rfl (by kernel_rfl) (fun _ _ _ _ _ h => h) (by rfl) ?_; apply Exists.intro; refine ⟨fun w1 hb1 => ?_, ?_⟩; (focus (((obtain ⟨-, k5, -⟩ := K5.out.to (HR8.out.trans hb1); obtain ⟨-, k4, -⟩ := K4.out.to (HR8.out.trans hb1); have x0 := ((HR8.out.trans hb1).cell (p := ⟨bb, off + k, none⟩) hbz).trans XZ.out); have hb1 := Lib.hid hb1; go_simp); (try (go_bits; try go_simp)); (try (rw [if_pos (by omega)]; try go_simp)); (first | done | (fail) | (with_reducible rfl) | exact rfl)))
      simp only [Act.put, List.setIfInBounds_toArray, List.set_cons_zero, List.set_cons_succ]
      refine WG_yes 9 rfl (by kernel_rfl) (fun _ _ _ _ _ h => h) (by rfl) ?_; apply Exists.intro; refine ⟨fun w1 hb1 => ?_, ?_⟩; (focus (((obtain ⟨-, k5, -⟩ := K5.out.to (HR8.out.trans hb1); obtain ⟨-, k4, -⟩ := K4.out.to (HR8.out.trans hb1); have x0 := ((HR8.out.trans hb1).cell (p := ⟨bb, off + k, none⟩) hbz).trans XZ.out); have hb1 := Lib.hid hb1; go_simp); (try (go_bits; try go_simp)); (try (rw [if_pos (by omega)]; try go_simp)); (first | done | (fail) | (with_reducible rfl) | exact rfl)))
      simp only [Act.put, List.setIfInBounds_toArray, List.set_cons_zero, List.set_cons_succ]
      refine WG_yes 10 rfl (by kernel_rfl) (fun _ _ _ _ _ h => h) (by rfl) ?_; apply Exists.intro; refine ⟨fun w1 hb1 => ?_, ?_⟩; (focus (((obtain ⟨-, k5, -⟩ := K5.out.to (HR8.out.trans hb1); obtain ⟨-, k4, -⟩ := K4.out.to (HR8.out.trans hb1); have x0 := ((HR8.out.trans hb1).cell (p := ⟨bb, off + k, none⟩) hbz).trans XZ.out); have hb1 := Lib.hid hb1; go_simp); (try (go_bits; try go_simp)); (try (rw [if_pos (by omega)]; try go_simp)); (first | done | (fail) | (with_reducible rfl) | exact rfl)))
      simp only [Act.put, List.setIfInBounds_toArray, List.set_cons_zero, List.set_cons_succ]
      refine WG_yes 11 rfl (by kernel_rfl) (fun _ _ _ _ _ h => h) (by rfl) ?_; apply Exists.intro; refine ⟨fun w1 hb1 => ?_, ?_⟩; (focus (((obtain ⟨-, k5, -⟩ := K5.out.to (HR8.out.trans hb1); obtain ⟨-, k4, -⟩ := K4.out.to (HR8.out.trans hb1); have x0 := ((HR8.out.trans hb1).cell (p := ⟨bb, off + k, none⟩) hbz).trans XZ.out); have hb1 := Lib.hid hb1; go_simp); (try (go_bits; try go_simp)); (try (rw [if_pos (by omega)]; try go_simp)); (first | done | (fail) | (with_reducible rfl) | exact rfl)))
      simp only [Act.put, List.setIfInBounds_toArray, List.set_cons_zero, List.set_cons_succ]
      refine WG_yes 12 rfl (by kernel_rfl) (fun _ _ _ _ _ h => h) (by rfl) ?_; apply Exists.intro; refine ⟨fun w1 hb1 => ?_, ?_⟩; (focus (((obtain ⟨-, k5, -⟩ := K5.out.to (HR8.out.trans hb1); obtain ⟨-, k4, -⟩ := K4.out.to (HR8.out.trans hb1); have x0 := ((HR8.out.trans hb1).cell (p := ⟨bb, off + k, none⟩) hbz).trans XZ.out); have hb1 := Lib.hid hb1; go_simp); (try (go_bits; try go_simp)); (try (rw [if_pos (by omega)]; try go_simp)); (first | done | (fail) | (with_reducible rfl) | exact rfl)))
      simp only [Act.put, List.setIfInBounds_toArray, List.set_cons_zero, List.set_cons_succ]
      refine WG_yes 13 rfl (by kernel_rfl) (fun _ _ _ _ _ h => h) (by rfl) ?_; apply Exists.intro; refine ⟨fun w1 hb1 => ?_, ?_⟩; (focus (((obtain ⟨-, k5, -⟩ := K5.out.to (HR8.out.trans hb1); obtain ⟨-, k4, -⟩ := K4.out.to (HR8.out.trans hb1); have x0 := ((HR8.out.trans hb1).cell (p := ⟨bb, off + k, none⟩) hbz).trans XZ.out); have hb1 := Lib.hid hb1; go_simp); (try (go_bits; try go_simp)); (try (rw [if_pos (by omega)]; try go_simp)); (first | done | (fail) | (with_reducible rfl) | exact rfl)))
      simp only [Act.put, List.setIfInBounds_toArray, List.set_cons_zero, List.set_cons_succ]
      refine WG_yes 14 rfl (by kernel_rfl) (fun _ _ _ _ _ h => h) (by rfl) ?_; apply Exists.intro; refine ⟨fun w1 hb1 => ?_, ?_⟩; (focus (((obtain ⟨-, k5, -⟩ := K5.out.to (HR8.out.trans hb1); obtain ⟨-, k4, -⟩ := K4.out.to (HR8.out.trans hb1); have x0 := ((HR8.out.trans hb1).cell (p := ⟨bb, off + k, none⟩) hbz).trans XZ.out); have hb1 := Lib.hid hb1; go_simp); (try (go_bits; try go_simp)); (try (rw [if_pos (by omega)]; try go_simp)); (first | done | (fail) | (with_reducible rfl) | exact rfl)))
      simp only [Act.put, List.setIfInBounds_toArray, List.set_cons_zero, List.set_cons_succ]
      refine WG_yes 15 rfl (by kernel_rfl) (fun _ _ _ _ _ h => h) (by rfl) ?_; apply Exists.intro; refine ⟨fun w1 hb1 => ?_, ?_⟩; (focus ((skip; have hb1 := Lib.hid hb1; go_simp); (try (go_bits; try go_simp)); (try (rw [if_pos (by omega)]; try go_simp)); (first | done | (fail) | (with_reducible rfl) | exact rfl)))
      simp only [Act.put, List.setIfInBounds_toArray, List.set_cons_zero, List.set_cons_succ]
      refine WG_yes 16 rfl (by kernel_rfl) (fun _ _ _ _ _ h => h) (by rfl) ?_; apply Exists.intro; refine ⟨fun w1 hb1 => ?_, ?_⟩; (focus ((skip; have hb1 := Lib.hid hb1; go_simp); (try (go_bits; try go_simp)); (try (rw [if_pos (by omega)]; try go_simp)); (first | done | (fail) | (with_reducible rfl) | exact rfl)))
      simp only [Act.put, List.setIfInBounds_toArray, List.set_cons_zero, List.set_cons_succ]
      refine WG_yes 17 rfl (by kernel_rfl) (fun _ _ _ _ _ h => h) (by rfl) ?_; apply Exists.intro; refine ⟨fun w1 hb1 => ?_, ?_⟩; (focus ((skip; have hb1 := Lib.hid hb1; go_simp); (try (go_bits; try go_simp)); (try (rw [if_pos (by omega)]; try go_simp)); (first | done | ((refine (HMD.out _).mono ?_; rintro e w' ⟨rfl, rfl⟩; exact ⟨rfl, rfl⟩)) | (with_reducible rfl) | exact rfl)))
      simp only [Act.put, List.setIfInBounds_toArray, List.set_cons_zero, List.set_cons_succ]
      refine WG_yes 18 rfl (by kernel_rfl) (fun _ _ _ _ _ h => h) (by rfl) ?_; apply Exists.intro; refine ⟨fun w1 hb1 => ?_, ?_⟩; (focus ((skip; have hb1 := Lib.hid hb1; go_simp); (try (go_bits; try go_simp)); (try (rw [if_pos (by omega)]; try go_simp)); (first | done | (fail) | (with_reducible rfl) | exact rfl)))
      simp only [Act.put, List.setIfInBounds_toArray, List.set_cons_zero, List.set_cons_succ]
      obtain ⟨od, hod⟩ : ∃ o, lo + md = o := ⟨_, rfl⟩
      rw [hod] at HOD ⊢
      clear hod HMD XZ
      have hs9 : z2.heap.size ≤ wi.heap.size := HT8.out.lt
      refine WG_one 19 rfl (by kernel_rfl) ?_
      unfold stepG
      go_wp2_with fail
      obtain ⟨h8, hh8⟩ : ∃ u, wi.alloc (.cells #[.int .i64 od] 3) = u := ⟨_, rfl⟩
      rw [hh8]
      have HNN : Hid (Blk h8 wi.heap.size #[.int .i64 od]) := by subst hh8; exact Lib.hid (Blk.new _ _ _)
      have HNW := Lib.hid HNN.out.news
      have hb8 : Below wi.heap.size wi h8 := by subst hh8; exact bAlloc (bSelf _) _
      replace HT8 := Lib.hid (HT8.out.to hb8)
      have hb9 : Below z2.heap.size wi h8 := hb8.mono hs9
      replace HR8 := Lib.hid (HR8.out.trans hb9)
      refine ⟨hb9, ?_⟩
      clear hb8 hb9 hh8 HNN
      obtain ⟨T8, hT8⟩ : ∃ t, wi.heap.size = t := ⟨_, rfl⟩
      rw [hT8] at HNW ⊢
      clear hT8 hs9
      have hs9 : z2.heap.size ≤ h8.heap.size := HT8.out.lt
      refine WG_one 20 rfl (by kernel_rfl) ?_
      unfold stepG
      go_wp2_with (at_builtin; go_loud (refine wpList_app z2.heap.size rtInt rfl (.tmp 163) (.tmp 182) rfl _ k _ rfl HT8.out.r2 ⟨T8, 0, none⟩ 1 1 [.int .i64 od] rfl rfl (by simpa using HNW.out) (ones [od]) (by unfold maxLen; omega) (by omega) hs9 ?_; intro v' w8 hown' hgrow _ hwhere; obtain ⟨vb', vd', rfl⟩ := ownsRow_sl hown'; have HT7 := Lib.hid (HT8.out.app2 hown' hgrow hwhere); clear hown' hgrow hwhere))
      have HR9 := Lib.hid (HR8.out.trans HT7.out.2)
      refine ⟨HT7.out.2, ?_⟩
      clear hs9 HNW HT8 HR8
      refine WG_yes 21 rfl (by kernel_rfl) (fun _ _ _ _ _ h => h) (by rfl) ?_; apply Exists.intro; refine ⟨fun w1 hb1 => ?_, ?_⟩; (focus ((skip; have hb1 := Lib.hid hb1; go_simp); (try (go_bits; try go_simp)); (try (rw [if_pos (by omega)]; try go_simp)); (first | done | (fail) | (with_reducible rfl) | exact rfl)))
      simp only [Act.put, List.setIfInBounds_toArray, List.set_cons_zero, List.set_cons_succ]
      refine WG_done (by kernel_rfl) ?_
      go_wp2_with fail
      go_roundw
      case rel =>
        refine ⟨k + 1, va', vc', vb', vd', rfl, rfl, by go_num, by omega, Lib.hid ?_, HR9⟩
        rw [cn_cells, dm_cells, HOD.out]
        exact HT7.out.1
      case measure => simp [intOf]; omega
    · obtain rfl : k = dn := by omega
      replace K3 := Lib.hid (K3.out.to HR0.out)
      replace K4 := Lib.hid (K4.out.to HR0.out)
      replace K5 := Lib.hid (K5.out.to HR0.out)
      replace K14 := Lib.hid (K14.out.to HR0.out)
      replace HB := Lib.hid (bThen HB.out HR0.out)
      replace HRS := Lib.hid (HRS.out.to HR0.out)
      obtain ⟨a', cap', e, hcp, hrd, hfr⟩ := Reads.of_row (f := fracs (cnL (lo, hi) k)) HT.out.r1 (fun i hi => fcells_get _ i (by rw [cnL_len]; exact hi))
      cases e
      obtain ⟨a', cap', e, hcp2, hrd2, hfr2⟩ := Reads.of_row (f := ints (dmL (lo, hi) ys k)) HT.out.r2 (fun i hi => by
        rw [List.getElem?_map, List.getElem?_eq_getElem (by rw [dmL_len]; omega)]
        unfold ints
        rw [gi_lt (by rw [dmL_len]; omega)]
        rfl)
      cases e
      rw [Nat.mul_one] at hrd2
      have HCN := Lib.hid hrd
      have HDM := Lib.hid hrd2
      clear hcp hrd hfr hcp2 hrd2 hfr2 HT k4 HYR
      go_wp2_with fail
      clear k5
      refine wp_region_tree (by kernel_rfl) (fun wd hwd => ?_)
      have T := Lib.hid hwd
      clear hwd
      refine WT_yes 0 rfl (by kernel_rfl) (fun _ _ _ _ _ h => h) (by rfl) ?_; apply Exists.intro; refine ⟨fun w1 hb1 => ?_, ?_⟩; (focus (((obtain ⟨-, k3, -⟩ := K3.out.to (T.out.trans hb1)); have hb1 := Lib.hid hb1; go_simp); (try (go_bits; try go_simp)); (try (rw [if_pos (by omega)]; try go_simp)); (first | done | (fail) | (with_reducible rfl) | exact rfl)))
      simp only [Act.put, List.setIfInBounds_toArray, List.set_cons_zero, List.set_cons_succ]
      refine WT_yes 2 rfl (by kernel_rfl) (fun _ _ _ _ _ h => h) (by rfl) ?_; apply Exists.intro; refine ⟨fun w1 hb1 => ?_, ?_⟩; (focus (((obtain ⟨-, k14, -⟩ := K14.out.to (T.out.trans hb1)); have hb1 := Lib.hid hb1; go_simp); (try (go_bits; try go_simp)); (try (rw [if_pos (by omega)]; try go_simp)); (first | done | (fail) | (with_reducible rfl) | exact rfl)))
      simp only [Act.put, List.setIfInBounds_toArray, List.set_cons_zero, List.set_cons_succ]
      refine WT_yes 3 rfl (by kernel_rfl) (fun _ _ _ _ _ h => h) (by rfl) ?_; apply Exists.intro; refine ⟨fun w1 hb1 => ?_, ?_⟩; (focus ((skip; have hb1 := Lib.hid hb1; go_simp); (try (go_bits; try go_simp)); (try (rw [if_pos (by omega)]; try go_simp)); (first | done | (fail) | (with_reducible rfl) | exact rfl)))
      simp only [Act.put, List.setIfInBounds_toArray, List.set_cons_zero, List.set_cons_succ]
      refine WT_yes 4 rfl (by kernel_rfl) (fun _ _ _ _ _ h => h) (by rfl) ?_; apply Exists.intro; refine ⟨fun w1 hb1 => ?_, ?_⟩; (focus (((obtain ⟨-, k4, -⟩ := K4.out.to (T.out.trans hb1)); have hb1 := Lib.hid hb1; go_simp); (try (go_bits; try go_simp)); (try (rw [if_pos (by omega)]; try go_simp)); (first | done | (fail) | (with_reducible rfl) | exact rfl)))
      simp only [Act.put, List.setIfInBounds_toArray, List.set_cons_zero, List.set_cons_succ]
      refine WT_yes 5 rfl (by kernel_rfl) (fun _ _ _ _ _ h => h) (by rfl) ?_; apply Exists.intro; refine ⟨fun w1 hb1 => ?_, ?_⟩; (focus (((obtain ⟨-, k4, -⟩ := K4.out.to (T.out.trans hb1)); have hb1 := Lib.hid hb1; go_simp); (try (go_bits; try go_simp)); (try (rw [if_pos (by omega)]; try go_simp)); (first | done | (fail) | (with_reducible rfl) | exact rfl)))
      simp only [Act.put, List.setIfInBounds_toArray, List.set_cons_zero, List.set_cons_succ]
      refine WT_one 1 rfl (by kernel_rfl) ?_
      unfold stepT
      go_wp2_with fail
      refine (HCPY.out _ (bThen HB.out T.out)).mono ?_
      rintro e g9 ⟨a1, c1, rfl, -, hr1, hb, -⟩
      have HR1 := Lib.hid hr1
      clear hr1
      unfold plC
      rw [HM.out] at HR1 ⊢
      have hbd := Lib.hid (hb.mono T.out.size)
      replace T := Lib.hid (bThen T.out hb)
      clear hb
      go_wp2_with fail
      refine ⟨hbd.out, ?_⟩
      clear hbd
      refine WT_one 6 rfl (by kernel_rfl) ?_
      unfold stepT
      go_wp2_with fail
      refine (HP1.out _ _ _ _ _ HR1.out (HCN.out.to T.out)).mono ?_
      rintro e h1 ⟨rfl, hb⟩
      clear HR1
      have hbd := Lib.hid (hb.mono T.out.size)
      replace T := Lib.hid (bThen T.out hb)
      clear hb
      go_wp2_with fail
      refine ⟨hbd.out, ?_⟩
      clear hbd
      refine WT_yes 7 rfl (by kernel_rfl) (fun _ _ _ _ _ h => h) (by rfl) ?_; apply Exists.intro; refine ⟨fun w1 hb1 => ?_, ?_⟩; (focus ((skip; have hb1 := Lib.hid hb1; go_simp); (try (go_bits; try go_simp)); (try (rw [if_pos (by omega)]; try go_simp)); (first | done | (fail) | (with_reducible rfl) | exact rfl)))
      simp only [Act.put, List.setIfInBounds_toArray, List.set_cons_zero, List.set_cons_succ]
      refine WT_yes 8 rfl (by kernel_rfl) (fun _ _ _ _ _ h => h) (by rfl) ?_; apply Exists.intro; refine ⟨fun w1 hb1 => ?_, ?_⟩; (focus ((skip; have hb1 := Lib.hid hb1; go_simp); (try (go_bits; try go_simp)); (try (rw [if_pos (by omega)]; try go_simp)); (first | done | (fail) | (with_reducible rfl) | exact rfl)))
      simp only [Act.put, List.setIfInBounds_toArray, List.set_cons_zero, List.set_cons_succ]
      refine WT_yes 9 rfl (by kernel_rfl) (fun _ _ _ _ _ h => h) (by rfl) ?_; apply Exists.intro; refine ⟨fun w1 hb1 => ?_, ?_⟩; (focus ((skip; have hb1 := Lib.hid hb1; go_simp); (try (go_bits; try go_simp)); (try (rw [if_pos (by omega)]; try go_simp)); (first | done | (fail) | (with_reducible rfl) | exact rfl)))
      simp only [Act.put, List.setIfInBounds_toArray, List.set_cons_zero, List.set_cons_succ]
      refine WT_yes 10 rfl (by kernel_rfl) (fun _ _ _ _ _ h => h) (by rfl) ?_; apply Exists.intro; refine ⟨fun w1 hb1 => ?_, ?_⟩; (focus ((skip; have hb1 := Lib.hid hb1; go_simp); (try (go_bits; try go_simp)); (try (rw [if_pos (by omega)]; try go_simp)); (first | done | (fail) | (with_reducible rfl) | exact rfl)))
      simp only [Act.put, List.setIfInBounds_toArray, List.set_cons_zero, List.set_cons_succ]
      refine WT_yes 11 rfl (by kernel_rfl) (fun _ _ _ _ _ h => h) (by rfl) ?_; apply Exists.intro; refine ⟨fun w1 hb1 => ?_, ?_⟩; (focus ((skip; have hb1 := Lib.hid hb1; go_simp); (try (go_bits; try go_simp)); (try (rw [if_pos (by omega)]; try go_simp)); (first | done | (fail) | (with_reducible rfl) | exact rfl)))
      simp only [Act.put, List.setIfInBounds_toArray, List.set_cons_zero, List.set_cons_succ]
      refine WT_done (by kernel_rfl) ?_
      replace HB := Lib.hid (bThen HB.out T.out)
      replace K3 := Lib.hid (K3.out.to T.out)
      replace K4 := Lib.hid (K4.out.to T.out)
      replace K5 := Lib.hid (K5.out.to T.out)
      replace HRS := Lib.hid (HRS.out.to T.out)
      replace K14 := Lib.hid (K14.out.to T.out)
      replace HDM := Lib.hid (HDM.out.to T.out)
      clear T
      go_wp2_with fail
      refine wp_region_tree (by kernel_rfl) (fun wd hwd => ?_)
      have T := Lib.hid hwd
      clear hwd
      refine WT_yes 0 rfl (by kernel_rfl) (fun _ _ _ _ _ h => h) (by rfl) ?_; apply Exists.intro; refine ⟨fun w1 hb1 => ?_, ?_⟩; (focus (((obtain ⟨-, k3, -⟩ := K3.out.to (T.out.trans hb1)); have hb1 := Lib.hid hb1; go_simp); (try (go_bits; try go_simp)); (try (rw [if_pos (by omega)]; try go_simp)); (first | done | (fail) | (with_reducible rfl) | exact rfl)))
      simp only [Act.put, List.setIfInBounds_toArray, List.set_cons_zero, List.set_cons_succ]
      refine WT_yes 2 rfl (by kernel_rfl) (fun _ _ _ _ _ h => h) (by rfl) ?_; apply Exists.intro; refine ⟨fun w1 hb1 => ?_, ?_⟩; (focus (((obtain ⟨-, k14, -⟩ := K14.out.to (T.out.trans hb1)); have hb1 := Lib.hid hb1; go_simp); (try (go_bits; try go_simp)); (try (rw [if_pos (by omega)]; try go_simp)); (first | done | (fail) | (with_reducible rfl) | exact rfl)))
      simp only [Act.put, List.setIfInBounds_toArray, List.set_cons_zero, List.set_cons_succ]
      refine WT_yes 3 rfl (by kernel_rfl) (fun _ _ _ _ _ h => h) (by rfl) ?_; apply Exists.intro; refine ⟨fun w1 hb1 => ?_, ?_⟩; (focus ((skip; have hb1 := Lib.hid hb1; go_simp); (try (go_bits; try go_simp)); (try (rw [if_pos (by omega)]; try go_simp)); (first | done | (fail) | (with_reducible rfl) | exact rfl)))
      simp only [Act.put, List.setIfInBounds_toArray, List.set_cons_zero, List.set_cons_succ]
      refine WT_one 1 rfl (by kernel_rfl) ?_
      unfold stepT
      go_wp2_with fail
      refine (HCPY.out _ (bThen HB.out T.out)).mono ?_
      rintro e h2 ⟨a1, c1, rfl, -, hr1, hb, -⟩
      have HR1 := Lib.hid hr1
      clear hr1
      unfold plC
      rw [HM.out] at HR1 ⊢
      have hbd := Lib.hid (hb.mono T.out.size)
      replace T := Lib.hid (bThen T.out hb)
      clear hb
      go_wp2_with fail
      refine ⟨hbd.out, ?_⟩
      clear hbd
      refine WT_one 4 rfl (by kernel_rfl) ?_
      unfold stepT
      go_wp2_with fail
      refine (HR1'.out _ _ _ _ _ HR1.out (HDM.out.to T.out)).mono ?_
      rintro e h3 ⟨aR, cR, rfl, hcR, hrR, hb, -⟩
      have HRR := Lib.hid hrR
      clear hrR HR1
      have hbd := Lib.hid (hb.mono T.out.size)
      replace T := Lib.hid (bThen T.out hb)
      clear hb
      go_wp2_with fail
      refine ⟨hbd.out, ?_⟩
      clear hbd
      refine WT_yes 5 rfl (by kernel_rfl) (fun _ _ _ _ _ h => h) (by rfl) ?_; apply Exists.intro; refine ⟨fun w1 hb1 => ?_, ?_⟩; (focus ((skip; have hb1 := Lib.hid hb1; go_simp); (try (go_bits; try go_simp)); (try (rw [if_pos (by omega)]; try go_simp)); (first | done | (fail) | (with_reducible rfl) | exact rfl)))
      simp only [Act.put, List.setIfInBounds_toArray, List.set_cons_zero, List.set_cons_succ]
      refine WT_yes 6 rfl (by kernel_rfl) (fun _ _ _ _ _ h => h) (by rfl) ?_; apply Exists.intro; refine ⟨fun w1 hb1 => ?_, ?_⟩; (focus ((skip; have hb1 := Lib.hid hb1; go_simp); (try (go_bits; try go_simp)); (try (rw [if_pos (by omega)]; try go_simp)); (first | done | (fail) | (with_reducible rfl) | exact rfl)))
      simp only [Act.put, List.setIfInBounds_toArray, List.set_cons_zero, List.set_cons_succ]
      refine WT_yes 7 rfl (by kernel_rfl) (fun _ _ _ _ _ h => h) (by rfl) ?_; apply Exists.intro; refine ⟨fun w1 hb1 => ?_, ?_⟩; (focus ((skip; have hb1 := Lib.hid hb1; go_simp); (try (go_bits; try go_simp)); (try (rw [if_pos (by omega)]; try go_simp)); (first | done | (fail) | (with_reducible rfl) | exact rfl)))
      simp only [Act.put, List.setIfInBounds_toArray, List.set_cons_zero, List.set_cons_succ]
      refine WT_yes 8 rfl (by kernel_rfl) (fun _ _ _ _ _ h => h) (by rfl) ?_; apply Exists.intro; refine ⟨fun w1 hb1 => ?_, ?_⟩; (focus ((skip; have hb1 := Lib.hid hb1; go_simp); (try (go_bits; try go_simp)); (try (rw [if_pos (by omega)]; try go_simp)); (first | done | (fail) | (with_reducible rfl) | exact rfl)))
      simp only [Act.put, List.setIfInBounds_toArray, List.set_cons_zero, List.set_cons_succ]
      refine WT_yes 9 rfl (by kernel_rfl) (fun _ _ _ _ _ h => h) (by rfl) ?_; apply Exists.intro; refine ⟨fun w1 hb1 => ?_, ?_⟩; (focus ((skip; have hb1 := Lib.hid hb1; go_simp); (try (go_bits; try go_simp)); (try (rw [if_pos (by omega)]; try go_simp)); (first | done | (fail) | (with_reducible rfl) | exact rfl)))
      simp only [Act.put, List.setIfInBounds_toArray, List.set_cons_zero, List.set_cons_succ]
      refine WT_done (by kernel_rfl) ?_
      replace HB := Lib.hid (bThen HB.out T.out)
      replace K3 := Lib.hid (K3.out.to T.out)
      replace K4 := Lib.hid (K4.out.to T.out)
      replace K5 := Lib.hid (K5.out.to T.out)
      replace HRS := Lib.hid (HRS.out.to T.out)
      clear T
      clear HP1 HR1' HCN HDM
      obtain ⟨bR, oR, rfl, hbR, hcR'⟩ := HRR.out.at (k := k * 2) (by omega)
      obtain ⟨⟨t1, t2⟩, ht⟩ : ∃ s, sg rr k = s := ⟨_, rfl⟩
      have e0 : h3.cell? ⟨bR, oR + k * 2, none⟩ = some (.int .i64 t1) := by have := hcR' (k * 2) (by omega); rw [osts0, ht] at this; exact this
      have e1 : h3.cell? ⟨bR, oR + k * 2 + 1, none⟩ = some (.bool t2) := by have := hcR' (k * 2 + 1) (by omega); rw [osts1, ht] at this; exact this
      have hli := HLI.out
      rw [ht] at hli
      have HI1 := Lib.hid (fun W h => HIS.out W (t1, t2) h)
      rw [hli] at HI1
      dsimp only at HI1
      have hkk : ((k + 1 : Nat) : Int) - 1 = (k : Int) := by omega
      clear ht hli hcR' HLI HIS
      obtain ⟨-, k5, -⟩ := K5.out
      go_wp2_with fail
      refine (HI1.out _ HRS.out).mono ?_
      rintro e h4 ⟨rfl, hb⟩
      replace HB := Lib.hid (bThen HB.out hb)
      clear hb
      go_wp2_with fail
      go_ret
      exact ⟨rfl, HB.out⟩

end Go.Proofs.YtjfedpblkejmkaaGreat

