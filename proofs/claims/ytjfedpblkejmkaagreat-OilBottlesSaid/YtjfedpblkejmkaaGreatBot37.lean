/-
  Texts of this claim, in their build order: OM21 OS1 OP17 OS2.
-/
import Derived.Test.YtjfedpblkejmkaaGreatBot36
import Derived.Test.YtjfedpblkejmkaaGreatBot22
import Derived.Test.YtjfedpblkejmkaaGreatBot27
import Derived.Shelf.SlSortCmp.WholeK
import Derived.Shelf.SlGeneric
import Derived.Test.YtjfedpblkejmkaaGreatBot18
import Derived.Sort.Statements
import Derived.Test.YtjfedpblkejmkaaGreatBot25
import Derived.Shelf.SlSortCmp.NoneTotal
import Derived.Sort.OwnSorted
import Derived.Test.YtjfedpblkejmkaaGreatBot0

namespace Go.Proofs.YtjfedpblkejmkaaGreat
section
open Go.RowKit
attribute [local go_sem] Oper.semAt_some

theorem OnOk.of_lin {l : List (Int × Int)} {x : Int} (h : LinOk l) (h0 : 0 ≤ x) (h1 : x ≤ capV l) : OnOk l x where
  few := by have := h.few; omega
  lt := ptI_ltL h h1
  pos hne := by
    rcases Nat.eq_zero_or_pos (ptI l x) with e | e
    · have h2 := ptI_geL h h1
      rw [e, h.v0] at h2
      rw [e, h.v0] at hne
      omega
    · exact e
  x0 := ⟨h0, by have := (h.vol (l.length - 1) (by have := h.two; omega)).2; unfold capV at h1; omega⟩
  bd k hk := by have := h.vol k hk; have := h.prs k hk; omega
theorem QOk.of_lin {l : List (Int × Int)} {v : Int} (h : LinOk l) (h0 : 0 ≤ v) (hv : v ≤ capV l) : QOk (prQ l v) := by
  obtain ⟨a, b, c, d⟩ := prQ_denL h h0 hv
  exact ⟨c, by omega, a, by omega⟩
theorem chVl_ok {l : List (Int × Int × Int)} (h : (chVl l).2 = 0) : VlvOk l ∧ 2 ≤ l.length ∧ l.length ≤ 8 := by
  unfold chVl at h
  by_cases h1 : fewE l.length ≠ 0
  · rw [if_pos h1] at h; exact absurd h h1
  · rw [if_neg h1] at h
    have h1' : fewE l.length = 0 := by simpa using h1
    obtain ⟨f1, f2⟩ := firstE2.1 (show firstE [_, _] = 0 from h1')
    rw [unlZ (by decide), decide_eq_true_eq] at f1 f2
    have hp : ∀ k, k < l.length → ((wthn (vg l k).1 0 1000 = true ∧ wthn (vg l k).2.1 0 50 = true) ∧ wthn (vg l k).2.2 0 50 = true) ∧ (vg l k).2.1 ≤ (vg l k).2.2 ∧ ordV l k = true := fun k hk => by
      have := eachR_ok _ _ h k (by omega) (by omega)
      obtain ⟨k1, k2⟩ := firstE2.1 (show firstE [_, _] = 0 from this)
      rw [unlZ (by decide)] at k1 k2
      simp only [Bool.and_eq_true, decide_eq_true_eq] at k1 k2
      exact ⟨k1, k2⟩
    have h0 : (vg l 0).1 = 0 := by
      have := (hp 0 (by omega)).2.2
      unfold ordV at this
      rw [if_pos rfl] at this
      simpa using this
    have hu : ∀ k, k + 1 < l.length → (vg l k).1 < (vg l (k + 1)).1 ∧ (vg l k).2.1 ≤ (vg l (k + 1)).2.1 ∧ (vg l k).2.2 ≤ (vg l (k + 1)).2.2 := fun k hk => by
      have := (hp (k + 1) hk).2.2
      unfold ordV at this
      rw [if_neg (by omega), show k + 1 - 1 = k by omega] at this
      simp only [Bool.and_eq_true, decide_eq_true_eq] at this
      exact ⟨this.1.1, this.1.2, this.2⟩
    refine ⟨⟨⟨?_, ?_, ?_, fun k hk => ?_, fun k hk => ?_, fun k hk => ?_⟩, ⟨?_, ?_, ?_, fun k hk => ?_, fun k hk => ?_, fun k hk => ?_⟩⟩, by omega, by omega⟩
    · show 2 ≤ (lowV l).length; rw [low_len]; omega
    · show (lowV l).length ≤ 8; rw [low_len]; omega
    · show (fg (lowV l) 0).1 = 0; rw [fg_low]; exact h0
    · change k < (lowV l).length at hk
      rw [low_len] at hk
      show 0 ≤ (fg (lowV l) k).1 ∧ (fg (lowV l) k).1 ≤ 1000
      rw [fg_low]; exact wthn_iff.1 (hp k hk).1.1.1
    · change k < (lowV l).length at hk
      rw [low_len] at hk
      show 0 ≤ (fg (lowV l) k).2 ∧ (fg (lowV l) k).2 ≤ 1000
      rw [fg_low]; have := wthn_iff.1 (hp k hk).1.1.2; dsimp only; omega
    · change k + 1 < (lowV l).length at hk
      rw [low_len] at hk
      show (fg (lowV l) k).1 < (fg (lowV l) (k + 1)).1 ∧ (fg (lowV l) k).2 ≤ (fg (lowV l) (k + 1)).2
      rw [fg_low, fg_low]; exact ⟨(hu k hk).1, (hu k hk).2.1⟩
    · show 2 ≤ (uppV l).length; rw [upp_len]; omega
    · show (uppV l).length ≤ 8; rw [upp_len]; omega
    · show (fg (uppV l) 0).1 = 0; rw [fg_upp]; exact h0
    · change k < (uppV l).length at hk
      rw [upp_len] at hk
      show 0 ≤ (fg (uppV l) k).1 ∧ (fg (uppV l) k).1 ≤ 1000
      rw [fg_upp]; exact wthn_iff.1 (hp k hk).1.1.1
    · change k < (uppV l).length at hk
      rw [upp_len] at hk
      show 0 ≤ (fg (uppV l) k).2 ∧ (fg (uppV l) k).2 ≤ 1000
      rw [fg_upp]; have := wthn_iff.1 (hp k hk).1.2; dsimp only; omega
    · change k + 1 < (uppV l).length at hk
      rw [upp_len] at hk
      show (fg (uppV l) k).1 < (fg (uppV l) (k + 1)).1 ∧ (fg (uppV l) k).2 ≤ (fg (uppV l) (k + 1)).2
      rw [fg_upp, fg_upp]; exact ⟨(hu k hk).1, (hu k hk).2.2⟩
theorem lst_cap {l : List (Int × Int × Int)} (h : 0 < l.length) : capV (lowV l) = lstV l l.length ∧ capV (uppV l) = lstV l l.length := by
  obtain ⟨k, hk⟩ : ∃ k, l.length = k + 1 := ⟨l.length - 1, by omega⟩
  have e : lstV l l.length = (vg l k).1 := by rw [hk]; rfl
  rw [e]
  unfold capV
  rw [low_len, upp_len, hk, Nat.add_sub_cancel, fg_low, fg_upp]
  exact ⟨rfl, rfl⟩
theorem oWth_any (n lo hi : Int) (w : World) :
    Calls Tryz.prog 99 #[.int .i64 n, .int .i64 lo, .int .i64 hi] w fun e w' => e = .returned (.bool (wthn n lo hi)) ∧ w = w' := oWithin_any n lo hi w
/-- The error of drops for a valve. -/
def drpE (l : List (Int × Int × Int)) (a b : Int) : Int := firstE [(chVl l).2, unl (wthn a 0 (lstV l l.length) && wthn b 0 (lstV l l.length)) 2, unl (decide (a ≤ b)) 9]
def flwO (l : List (Int × Int × Int)) (a b : Int) : Int × Int := if drpE l a b = 0 then flwA l a b else (0, 0)
theorem firstE3 {a b c : Int} : firstE [a, b, c] = 0 ↔ a = 0 ∧ b = 0 ∧ c = 0 := by
  unfold firstE
  by_cases h : a = 0
  · rw [if_pos h]
    have := firstE2 (a := b) (b := c)
    exact ⟨fun h2 => ⟨h, this.1 h2⟩, fun h2 => this.2 h2.2⟩
  · rw [if_neg h]
    exact ⟨fun h2 => absurd h2 h, fun h2 => absurd h2.1 h⟩
theorem drpE_ok {l : List (Int × Int × Int)} {a b : Int} (h : drpE l a b = 0) : VlvOk l ∧ 0 ≤ a ∧ a ≤ b ∧ b ≤ capV (uppV l) ∧ b ≤ capV (lowV l) := by
  obtain ⟨h1, h2, h3⟩ := firstE3.1 (show firstE [_, _, _] = 0 from h)
  obtain ⟨g1, g2, g3⟩ := chVl_ok h1
  rw [unlZ (by decide)] at h2 h3
  simp only [Bool.and_eq_true, wthn_iff, decide_eq_true_eq] at h2 h3
  obtain ⟨c1, c2⟩ := lst_cap (l := l) (by omega)
  exact ⟨g1, h2.1.1, h3, by rw [c2]; exact h2.2.2, by rw [c1]; exact h2.2.2⟩

set_option maxHeartbeats 6400000 in
set_option maxRecDepth 100000 in
theorem FlowIn_any (l : List (Int × Int × Int)) (a b : Int) (al : Option Addr) (cap : Nat) (w : World) (hlen : l.length ≤ 1000) (hr : Reads w al (l.length * 3) (flws l)) :
    Calls Tryz.prog 46 #[.slice al l.length cap, .agg #[.int .i64 a, .int .i64 b]] w fun e w' => e = .returned (.tuple #[.agg #[.int .i64 (flwO l a b).1, .int .i64 (flwO l a b).2], .int .i64 (drpE l a b)]) ∧ Below w.heap.size w w' := by
  have HO := zH (fun W (hb : Below w.heap.size w W) => openValve_any l al cap W hlen (hr.to hb))
  have HE : Hid (firstE [(chVl l).2, unl (wthn a 0 (lstV l l.length) && wthn b 0 (lstV l l.length)) 2, unl (decide (a ≤ b)) 9] = drpE l a b) := zH rfl
  have HF : Hid (flwO l a b = if drpE l a b = 0 then ((prQ (lowV l) a).1 / (prQ (lowV l) a).2, ((prQ (uppV l) b).1 + (prQ (uppV l) b).2 - 1) / (prQ (uppV l) b).2) else (0, 0)) := zH rfl
  have HOK := zH (fun (h : drpE l a b = 0) => (show OnOk (lowV l) a ∧ OnOk (uppV l) b ∧ QOk (prQ (lowV l) a) ∧ QOk (prQ (uppV l) b) from by
    obtain ⟨h1, h2, h3, h4, h5⟩ := drpE_ok h
    exact ⟨.of_lin h1.lo h2 (by show a ≤ capV (lowV l); omega), .of_lin h1.hi (by omega) h4, .of_lin h1.lo h2 (by show a ≤ capV (lowV l); omega), .of_lin h1.hi (by omega) h4⟩))
  have HON1 := zH (fun W a1 c1 h1 h2 => on_any (lowV l) a a1 c1 W h1 h2)
  have HON2 := zH (fun W a1 c1 h1 h2 => on_any (uppV l) b a1 c1 W h1 h2)
  have HFL := zH (fun W h1 => oFloor_any (prQ (lowV l) a) W h1)
  have HCL := zH (fun W h1 => oCeil_any (prQ (uppV l) b) W h1)
  unfold OpvPost at HO
  rw [low_len] at HON1
  rw [upp_len] at HON2
  obtain ⟨ve, hve⟩ : ∃ e, drpE l a b = e := ⟨_, rfl⟩
  obtain ⟨⟨f1, f2⟩, hff⟩ : ∃ e, flwO l a b = e := ⟨_, rfl⟩
  obtain ⟨ce, hce⟩ : ∃ e, (chVl l).2 = e := ⟨_, rfl⟩
  obtain ⟨n, hn⟩ : ∃ n, l.length = n := ⟨_, rfl⟩
  obtain ⟨ls, hls⟩ : ∃ e, lstV l l.length = e := ⟨_, rfl⟩
  rw [hve] at HE HF HOK ⊢
  rw [hff] at HF ⊢
  rw [hce] at HE HO
  rw [hls] at HE HO
  rw [hn] at HO HON1 HON2 hlen ⊢
  obtain ⟨⟨q1, q2⟩, hq⟩ : ∃ q, prQ (lowV l) a = q := ⟨_, rfl⟩
  obtain ⟨⟨q3, q4⟩, hq'⟩ : ∃ q, prQ (uppV l) b = q := ⟨_, rfl⟩
  rw [hq] at HF HOK HON1 HFL
  rw [hq'] at HF HOK HON2 HCL
  obtain ⟨ba, hba⟩ : ∃ x, wthn a 0 ls = x := ⟨_, rfl⟩
  obtain ⟨bb, hbb⟩ : ∃ x, wthn b 0 ls = x := ⟨_, rfl⟩
  have HBA := zH hba
  have HBB := zH hbb
  rw [hba, hbb] at HE
  have HR := zH hr
  clear hve hff hce hn hls hq hq' hba hbb hr
  dsimp only at HF ⊢
  go_enter Tryz.func46, Tryz.ntmps46
  go_wp2_with fail
  obtain ⟨W, hW⟩ : ∃ W, (w.alloc (.cells #[.int .i64 a, .int .i64 b] 25)).alloc (.cells #[.int .i64 0, .int .i64 0] 25) = W := ⟨_, rfl⟩
  rw [hW]
  have K3 : Hid (Blk W w.heap.size #[.int .i64 a, .int .i64 b]) := by subst hW; exact zH ((Blk.new _ _ _).alloc _)
  have K4 : Hid (Blk W (w.heap.size + 1) #[.int .i64 0, .int .i64 0]) := by subst hW; exact zH (Blk.newAt _ _ _ (by simp))
  have HB : Hid (Below w.heap.size w W) := by subst hW; exact zH (bAlloc (bAlloc (bSelf w) _) _)
  clear hW
  refine (HO.out _ HB.out).mono ?_
  rintro e wa ⟨a1, c1, a2, c2, rfl, hr1, hr2, hb⟩
  replace K3 := zH (K3.out.to hb)
  replace K4 := zH (K4.out.to hb)
  replace HB := zH (bThen HB.out hb)
  have HLO := zH hr1
  have HUP := zH hr2
  clear hb hr1 hr2 HO
  go_wp2_with fail
  go_cut [9] from 17 to 36 (fun s9 wc => s9 = .int .i64 ve ∧ Hid (Below wa.heap.size wa wc))
  case first =>
    cases ba
    all_goals
      first | rw [Bool.true_and] at HE | rw [Bool.false_and] at HE
      refine wp_region_quiet_tail 18 (fun w' => Below (World.heap wa).size (wa) w') (by kernel_rfl) (by kernel_rfl) (Below.refl _ _).drew ?_
      simp only [List.take_succ_cons, List.take_zero, List.drop_succ_cons, List.drop_zero]
      refine WQ.out ?_
      repeat (first | (refine WQ_no (by rfl) ?_; (simp only [Act.put, zzT, zzO, zzS])) | (refine WQ_yes (by rfl) ?_; apply Exists.intro; refine ⟨fun w1 hb1 => ?_, ?_⟩; (focus (((obtain ⟨-, k3, -⟩ := K3.out.to hb1); have hb1 := zH hb1; go_simp); (try (go_bits; try go_simp)); (try (rw [if_pos (by omega)]; try go_simp)); (first | done | ((first | (go_at_call 99; refine (oWth_any _ _ _ _).mono ?_; rintro e w' ⟨rfl, rfl⟩; (first | rw [HBA.out] | rw [HBB.out]); exact ⟨rfl, hb1.out⟩) | (go_at_call 94; refine (oUnless_any _ _ _).mono ?_; rintro e w' ⟨rfl, rfl⟩; exact ⟨rfl, hb1.out⟩))) | (with_reducible rfl) | exact rfl))); (simp only [Act.put, zzT, zzO, zzS])))
      refine WQ_nil ?_
      intro w1 hb1
      go_wp2_with (go_at_call 92; refine (oFirst3_new _ _ _ _ _ (by simp)).mono ?_; rintro e w' ⟨rfl, rfl⟩; rw [HE.out])
      go_meet
      case rel => exact ⟨rfl, zH (bAlloc hb1 _)⟩
  obtain ⟨wo, hwo⟩ : ∃ wo, wo = wc := ⟨_, rfl⟩
  subst hwo
  obtain ⟨rfl, HWC⟩ := hcut
  replace K3 := zH (K3.out.to HWC.out)
  replace K4 := zH (K4.out.to HWC.out)
  replace HB := zH (bThen HB.out HWC.out)
  replace HLO := zH (HLO.out.to HWC.out)
  replace HUP := zH (HUP.out.to HWC.out)
  clear HWC HBA HBB HE
  by_cases h0 : ve = 0
  · subst h0
    obtain ⟨g1, g2, g3, g4⟩ := HOK.out rfl
    replace HON1 := zH (fun W a1 c1 hr => HON1.out W a1 c1 g1 hr)
    replace HON2 := zH (fun W a1 c1 hr => HON2.out W a1 c1 g2 hr)
    replace HFL := zH (fun W => HFL.out W g3)
    replace HCL := zH (fun W => HCL.out W g4)
    have hF := HF.out
    rw [if_pos rfl] at hF
    injection hF with hF1 hF2
    rw [← hF1] at HFL
    rw [← hF2] at HCL
    clear HOK HF hF1 hF2 g1 g2 g3 g4
    go_wp2_with fail
    refine wp_region_quiet_tail 10 (fun w' => Below (World.heap wo).size (wo) w') (by kernel_rfl) (by kernel_rfl) (Below.refl _ _).drew ?_
    simp only [List.take_succ_cons, List.take_zero, List.drop_succ_cons, List.drop_zero]
    refine WQ.out ?_
    iterate 5 (first | (refine WQ_no (by rfl) ?_; (simp only [Act.put, zzT, zzO, zzS])) | (refine WQ_yes (by rfl) ?_; apply Exists.intro; refine ⟨fun w1 hb1 => ?_, ?_⟩; (focus (((obtain ⟨-, k3, -⟩ := K3.out.to hb1); have hb1 := zH hb1; go_simp); (try (go_bits; try go_simp)); (try (rw [if_pos (by omega)]; try go_simp)); (first | done | ((first | (go_at_call 115; refine (HON1.out _ _ _ (HLO.out.to hb1.out)).mono ?_; rintro e w' ⟨rfl, hb⟩; exact ⟨rfl, bThen hb1.out hb⟩) | (go_at_call 116; refine (HFL.out _).mono ?_; rintro e w' ⟨rfl, hb⟩; exact ⟨rfl, bThen hb1.out hb⟩))) | (with_reducible rfl) | exact rfl))); (simp only [Act.put, zzT, zzO, zzS])))
    iterate 5 (first | (refine WQ_no (by rfl) ?_; (simp only [Act.put, zzT, zzO, zzS])) | (refine WQ_yes (by rfl) ?_; apply Exists.intro; refine ⟨fun w1 hb1 => ?_, ?_⟩; (focus (((obtain ⟨-, k3, -⟩ := K3.out.to hb1); have hb1 := zH hb1; go_simp); (try (go_bits; try go_simp)); (try (rw [if_pos (by omega)]; try go_simp)); (first | done | ((first | (go_at_call 115; refine (HON2.out _ _ _ (HUP.out.to hb1.out)).mono ?_; rintro e w' ⟨rfl, hb⟩; exact ⟨rfl, bThen hb1.out hb⟩) | (go_at_call 117; refine (HCL.out _).mono ?_; rintro e w' ⟨rfl, hb⟩; exact ⟨rfl, bThen hb1.out hb⟩))) | (with_reducible rfl) | exact rfl))); (simp only [Act.put, zzT, zzO, zzS])))
    refine WQ_nil ?_
    intro w1 hb1
    have K4' := zH (K4.out.to hb1)
    obtain ⟨-, k4, f4⟩ := K4'.out
    go_wp2_with fail
    have F := (K4'.out.set 0 (.int .i64 f1)).set 1 (.int .i64 f2)
    have F0 := F.2.1 0
    have F1 := F.2.1 1
    clear F k4 f4
    refine bodyPost_ret (v := .tuple #[.agg #[.int .i64 f1, .int .i64 f2], .int .i64 0]) ?_ rfl ⟨rfl, ?_⟩
    · simp [results, Tryz.results46, go_sem, F0, F1]
    · exact ((bThen HB.out hb1).setCell (p := ⟨w.heap.size + 1, 0, none⟩) (by simp) _).setCell (p := ⟨w.heap.size + 1, 1, none⟩) (by simp) _
  · have h0' : (ve != 0) = true := by simpa using h0
    have hF := HF.out
    rw [if_neg h0] at hF
    injection hF with hF1 hF2
    subst hF1 hF2
    clear h0 HOK HF HON1 HON2 HFL HCL
    obtain ⟨-, k4, f4⟩ := K4.out
    go_wp2_with fail
    have F := (K4.out.set 0 (.int .i64 0)).set 1 (.int .i64 0)
    have F0 := F.2.1 0
    have F1 := F.2.1 1
    clear F k4 f4
    refine bodyPost_ret (v := .tuple #[.agg #[.int .i64 0, .int .i64 0], .int .i64 ve]) ?_ rfl ⟨rfl, ?_⟩
    · simp [results, Tryz.results46, go_sem, F0, F1]
    · exact (HB.out.setCell (p := ⟨w.heap.size + 1, 0, none⟩) (by simp) _).setCell (p := ⟨w.heap.size + 1, 1, none⟩) (by simp) _
end
section
open Go.Shelf
def sortStates_ren : Go.Shelf.Ren := ⟨fun | 6 => 125 | 15 => 165 | 14 => 164 | 28 => 189 | 29 => 190 | 20 => 181 | 21 => 182 | 22 => 183 | 23 => 184 | 24 => 185 | 25 => 186 | 26 => 187 | 27 => 188 | 46 => 196 | 47 => 197 | 48 => 198 | 49 => 199 | 50 => 200 | 57 => 203 | n => n, fun | 22 => 49 | 24 => 46 | 25 => 193 | 3 => 3 | 39 => 231 | 0 => 0 | 53 => 248 | 55 => 250 | 4 => 4 | 46 => 242 | 45 => 241 | 50 => 91 | 5 => 5 | 9 => 9 | 66 => 253 | 70 => 257 | 76 => 259 | 77 => 85 | n => n, fun | n => n⟩
theorem sortStates : Go.Proofs.SlLaysF0.n6 Tryz.prog sortStates_ren := {
  mixed := by kernel_rfl
  f6 := ⟨Tryz.f125.name, by decide, Tryz.func125.trans (congrArg some (by kernel_rfl))⟩
  f14 := ⟨Tryz.f164.name, by decide, Tryz.func164.trans (congrArg some (by kernel_rfl))⟩
  f15 := Tryz.func165.trans (congrArg some (by kernel_rfl))
  f20 := ⟨Tryz.f181.name, by decide, Tryz.func181.trans (congrArg some (by kernel_rfl))⟩
  f21 := ⟨Tryz.f182.name, by decide, Tryz.func182.trans (congrArg some (by kernel_rfl))⟩
  f22 := ⟨Tryz.f183.name, by decide, Tryz.func183.trans (congrArg some (by kernel_rfl))⟩
  f23 := ⟨Tryz.f184.name, by decide, Tryz.func184.trans (congrArg some (by kernel_rfl))⟩
  f24 := ⟨Tryz.f185.name, by decide, Tryz.func185.trans (congrArg some (by kernel_rfl))⟩
  f25 := ⟨Tryz.f186.name, by decide, Tryz.func186.trans (congrArg some (by kernel_rfl))⟩
  f26 := ⟨Tryz.f187.name, by decide, Tryz.func187.trans (congrArg some (by kernel_rfl))⟩
  f27 := ⟨Tryz.f188.name, by decide, Tryz.func188.trans (congrArg some (by kernel_rfl))⟩
  f28 := Tryz.func189.trans (congrArg some (by kernel_rfl))
  f29 := Tryz.func190.trans (congrArg some (by kernel_rfl))
  f46 := ⟨Tryz.f196.name, by decide, Tryz.func196.trans (congrArg some (by kernel_rfl))⟩
  f47 := Tryz.func197.trans (congrArg some (by kernel_rfl))
  f48 := Tryz.func198.trans (congrArg some (by kernel_rfl))
  f49 := ⟨Tryz.f199.name, by decide, Tryz.func199.trans (congrArg some (by kernel_rfl))⟩
  f50 := ⟨Tryz.f200.name, by decide, Tryz.func200.trans (congrArg some (by kernel_rfl))⟩
  f57 := ⟨Tryz.f203.name, by decide, Tryz.func203.trans (congrArg some (by kernel_rfl))⟩
  t0 := Tryz.underlying0
  a0 := Tryz.isAgg0
  z0 := Tryz.sizeOf0
  v0 := Tryz.zeroValue0
  t3 := Tryz.underlying3
  a3 := Tryz.isAgg3
  z3 := Tryz.sizeOf3
  v3 := Tryz.zeroValue3
  t4 := Tryz.underlying4
  a4 := Tryz.isAgg4
  z4 := Tryz.sizeOf4
  v4 := Tryz.zeroValue4
  t5 := Tryz.underlying5
  a5 := Tryz.isAgg5
  z5 := Tryz.sizeOf5
  v5 := Tryz.zeroValue5
  t9 := Tryz.underlying9
  a9 := Tryz.isAgg9
  z9 := Tryz.sizeOf9
  v9 := Tryz.zeroValue9
  t22 := Tryz.underlying49
  a22 := Tryz.isAgg49
  z22 := Tryz.sizeOf49
  v22 := Tryz.zeroValue49
  t25 := Tryz.underlying193
  a25 := Tryz.isAgg193
  z25 := Tryz.sizeOf193
  v25 := Tryz.zeroValue193
  t39 := Tryz.underlying231
  a39 := Tryz.isAgg231
  z39 := Tryz.sizeOf231
  v39 := Tryz.zeroValue231
  t45 := Tryz.underlying241
  a45 := Tryz.isAgg241
  z45 := Tryz.sizeOf241
  v45 := Tryz.zeroValue241
  t46 := Tryz.underlying242
  a46 := Tryz.isAgg242
  z46 := Tryz.sizeOf242
  v46 := Tryz.zeroValue242
  t50 := Tryz.underlying91
  a50 := Tryz.isAgg91
  z50 := Tryz.sizeOf91
  v50 := Tryz.zeroValue91
  t53 := Tryz.underlying248
  a53 := Tryz.isAgg248
  z53 := Tryz.sizeOf248
  v53 := Tryz.zeroValue248
  t55 := Tryz.underlying250
  a55 := Tryz.isAgg250
  z55 := Tryz.sizeOf250
  v55 := Tryz.zeroValue250
  t66 := Tryz.underlying253
  a66 := Tryz.isAgg253
  z66 := Tryz.sizeOf253
  v66 := Tryz.zeroValue253
  t70 := Tryz.underlying257
  a70 := Tryz.isAgg257
  z70 := Tryz.sizeOf257
  v70 := Tryz.zeroValue257
  t76 := Tryz.underlying259
  a76 := Tryz.isAgg259
  z76 := Tryz.sizeOf259
  v76 := Tryz.zeroValue259
  t77 := Tryz.underlying85
  a77 := Tryz.isAgg85
  z77 := Tryz.sizeOf85
  v77 := Tryz.zeroValue85 }
end
section
open Go.RowKit

theorem srt_perm {d d' : Array OSt} (hn : d.toList.Nodup) (hp : Sort.PermIn 0 d.size d d') (hs : Sort.SortedIn ltS 0 d.size d') : SrtS d'.toList ∧ (∀ x, x ∈ d'.toList ↔ x ∈ d.toList) ∧ d'.size = d.size := by
  obtain ⟨h1, -, h3⟩ := hp
  rw [Array.extract_eq_self_of_le (Nat.le_refl _), ← h1, Array.extract_eq_self_of_le (Nat.le_refl _)] at h3
  refine ⟨?_, fun x => h3.mem_iff, h1⟩
  have hn' : d'.toList.Nodup := h3.symm.nodup hn
  unfold SrtS
  rw [List.pairwise_iff_getElem]
  intro i j hi hj hij
  have hsz : d'.toList.length = d'.size := Array.length_toList
  have h := hs i j (Nat.zero_le _) hij (by omega)
  rw [getElem!_pos _ j (by omega), getElem!_pos _ i (by omega)] at h
  have hne : d'.toList[i] ≠ d'.toList[j] := (List.pairwise_iff_getElem.1 hn') i j hi hj hij
  rw [Array.getElem_toList, Array.getElem_toList] at hne ⊢
  rcases ltS_tri d'[i] d'[j] with e | e | e
  · exact e
  · exact absurd e hne
  · rw [e] at h; cases h
theorem ltS_swo : Sort.SWO ltS where
  irrefl := ltS_irr
  trans _ _ _ := ltS_trans
  ntrans x y z h1 h2 := by
    cases h : ltS x z
    · rfl
    · rcases ltS_tri y z with e | e | e
      · rw [e] at h2; cases h2
      · subst e; rw [h] at h1; cases h1
      · rcases ltS_tri x y with f | f | f
        · rw [f] at h1; cases h1
        · subst f; rw [ltS_asym e] at h; cases h
        · have := ltS_trans e f
          rw [ltS_asym this] at h; cases h
end
section
open Go.RowKit Go.Sort
attribute [local go_sem] Oper.semAt_some

def encSt (s : OSt) : List Value := [.int .i64 s.1, .bool s.2]
theorem ltOf_ord : ltOf ordI = ltS := by
  funext a b
  exact ordI_lt a b
theorem swoOrd : SWO (ltOf ordI) := by rw [ltOf_ord]; exact ltS_swo
theorem cmpLaysO (blk off size : Nat) (w : World) : CmpLays Tryz.prog 126 #[] encSt 2 ordI blk off size w :=
fun _ _ _ _ x y => (order_any x y _).mono (by
  rintro e w' ⟨he, rfl⟩
  exact ⟨he, 0, _, by rw [alloc_eq_grow, alloc_eq_grow, grow_grow]; rfl⟩)
theorem flat_st (l : List OSt) : (flatK encSt 2 l.toArray).toList = scells l := by
  apply List.ext_getElem?
  intro i
  have hs : (flatK encSt 2 l.toArray).size = l.length * 2 := by rw [size_flatK]; simp
  by_cases h : i < l.length * 2
  · rw [scells_get l i h, Array.getElem?_toList]
    have h1 := get_flatK encSt 2 l.toArray i (by simpa using h)
    rw [getElem!_pos _ i (by rw [hs]; exact h)] at h1
    rw [Array.getElem?_eq_getElem (by rw [hs]; exact h), h1]
    have hk : i / 2 < l.length := by omega
    have e : l.toArray[i / 2]! = sg l (i / 2) := by
      rw [getElem!_pos _ _ (by simpa using hk)]
      unfold sg
      rw [List.getD_eq_getElem?_getD, List.getElem?_eq_getElem hk]
      simp
    rw [e]
    unfold osts
    by_cases h2 : i % 2 = 0
    · rw [if_pos h2, h2]; rfl
    · rw [if_neg h2, show i % 2 = 1 by omega]; rfl
  · rw [List.getElem?_eq_none (by rw [Array.length_toList, hs]; omega), List.getElem?_eq_none (by rw [scells_len]; omega)]
theorem holdsK_of_block {w : World} {g : Nat} {cur : Array Value} {e : TypeId} {l : List OSt} (hb : w.heap[g]? = some (.cells cur e (0, 0))) (ht : cur.toList.take (l.length * 2) = scells l) : HoldsK encSt 2 w g 0 l.toArray := by
  intro j hj
  have hj' : j < l.length * 2 := by simpa using hj
  refine ⟨?_, by simp [World.frozen?, hb]⟩
  have h1 : (cur.toList.take (l.length * 2))[j]? = (flatK encSt 2 l.toArray).toList[j]? := by rw [ht, flat_st]
  rw [List.getElem?_take_of_lt hj', Array.getElem?_toList, Array.getElem?_toList, Array.getElem?_eq_getElem hj] at h1
  simp only [World.cell?, hb, Nat.zero_add]
  simp only [Option.isSome_none, Bool.false_eq_true, if_false]
  rw [h1, getElem!_pos _ j hj]
  rfl
theorem heap_sortedK {w : World} {g n : Nat} {os : Array Obj} {cur : Array Value} {e : TypeId} {fr : Nat × Nat} (F : Array Value) (hb : w.heap[g]? = some (.cells cur e fr)) :
    (grow (putRow id (Sort.ahead w n) g 0 F) os).heap[g]? = some (.cells (putCells id 0 F cur) e fr) := by
  have hg : g < w.heap.size := (Array.getElem?_eq_some_iff.1 hb).1
  rw [heap_grow_old _ _ (by simpa using hg)]
  simp [putRow, mapBlock, Sort.ahead, Array.getElem?_modify, hb, onCells]
theorem grownBy_sortedK {w : World} {g n : Nat} {os : Array Obj} (F : Array Value) : w.grownBy (grow (putRow id (Sort.ahead w n) g 0 F) os) (some g) := by
  refine ⟨rfl, rfl, rfl, by simp, fun k hk hne => ?_⟩
  rw [heap_grow_old _ _ (by simpa using hk)]
  have : g ≠ k := fun e => hne (by rw [e])
  simp [putRow, mapBlock, Sort.ahead, Array.getElem?_modify, this]
theorem take_putCellsK (cur F : Array Value) (h : F.size ≤ cur.size) : (putCells id 0 F cur).toList.take F.size = F.toList := by
  apply List.ext_getElem?
  intro j
  by_cases hj : j < F.size
  · rw [List.getElem?_take_of_lt hj, Array.getElem?_toList]
    simp [putCells, hj, show j < cur.size by omega]
  · rw [List.getElem?_take_eq_none (by omega), List.getElem?_eq_none (by simp; omega)]

theorem oSort_any (l : List OSt) (v : Value) (n0 : Nat) (w : World) (hown : w.ownsRow n0 stT 2 v l.length (scells l)) (hl : l.length ≤ 100000) (hn : l.Nodup) :
    Calls Tryz.prog 125 #[v, .func (.func 126) #[] #[]] w fun e w' => e = .returned (.tuple #[]) ∧ ∃ l' : List OSt, SrtS l' ∧ (∀ x, x ∈ l' ↔ x ∈ l) ∧ l'.length = l.length ∧ w'.ownsRow n0 stT 2 v l.length (scells l') ∧ w.grownBy w' v.ownBlock := by
  rcases hown.2 with ⟨rfl, h0⟩ | ⟨g, cap, cur, rfl, hbase, hb, h1, h2, h3, h4⟩
  · have hnil : l = [] := List.length_eq_zero_iff.1 h0
    subst hnil
    refine (show Calls Tryz.prog 125 _ w _ from AnyF.slices_SortFunc_none sortStates none 0 (.func (.func 126) #[] #[]) w).mono ?_
    rintro e w' ⟨rfl, rfl⟩
    exact ⟨rfl, [], List.Pairwise.nil, fun x => Iff.rfl, rfl, hown, World.grownBy.refl _ _⟩
  · have eg : ∀ args w, (callFunc 126 args).run Tryz.prog w = .ok (.enter 126 args) w := enters_of Tryz.func126 (by kernel_rfl) rfl
    have hH : HoldsK encSt 2 w g 0 l.toArray := holdsK_of_block hb h4
    have hcon := AnyQ.slices_SortFunc sortStates 2 Tryz.isAgg46 Tryz.sizeOf46 encSt (fun _ => rfl) (fun x v hv => by simp [encSt] at hv; rcases hv with rfl | rfl <;> rfl) ordI swoOrd 126 #[] g 0 cap l.toArray w eg (cmpLaysO g 0 l.toArray.size w) hH (Array.getElem?_eq_some_iff.1 hb).1 (by simp; omega)
    refine (show Calls Tryz.prog 125 #[.slice (some ⟨g, 0, none⟩) l.length cap, .func (.func 126) #[] #[]] w _ from hcon).mono ?_
    rintro e w' ⟨rfl, d', n, os, hp, hs, rfl⟩
    rw [ltOf_ord] at hs
    obtain ⟨s1, s2, s3⟩ := srt_perm (d := l.toArray) (d' := d') (by simpa using hn) hp hs
    have hlen : d'.toList.length = l.length := by rw [Array.length_toList, s3]; simp
    have hF : (flatK encSt 2 d').toList = scells d'.toList := flat_st d'.toList
    have hFs : (flatK encSt 2 d').size = l.length * 2 := by rw [size_flatK, ← hlen, Array.length_toList]
    refine ⟨rfl, d'.toList, s1, fun x => by simpa using s2 x, hlen, ⟨by rw [scells_len, hlen], .inr ⟨g, cap, _, rfl, hbase, heap_sortedK _ hb, h1, h2, by simp [putCells, h3], ?_⟩⟩, grownBy_sortedK _⟩
    rw [← hF, ← hFs]
    refine take_putCellsK cur _ ?_
    rw [hFs, h3]
    exact Nat.mul_le_mul_right _ h1
end
end Go.Proofs.YtjfedpblkejmkaaGreat
